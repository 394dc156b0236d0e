/-
  No cell of these rows narrows 'for every input' (looked for: loops, veiled, ifaces, maps, wideKeys, modest, calm, conditions, laid).
  DERIVED. THE GIVEN ROWS OF THIS SEAT. 12 by the template 'for every input the law returns true; each argument reads behind the call as it read before'; 0 by the template 'total and deterministic' (their statements: YtfbmlnajnlekbaaTotals.lean).
  GIVEN WITH THE SEED: the statements are not yours to turn. If you find one false, say at which input.
  Laid BY PROGRAM, IN A SANDBOX (cutbox-rows.mjs): the forced cells as the released guide's own fill.sh prints them over the translation 1f2cb22bf30a8551… (all of the seat's roots in one cut). By AI agents, Wed Nov 11 2026. No macro, syntax, notation, axiom, sorry.
-/
import Derived.Test.YtfbmlnajnlekbaaChecked
import GoSem.Claim
import GoSem.ClaimJoined
import GoSem.ClaimMapViews
import Derived.JoinedTies
import Derived.KernelRfl
namespace Go.Proofs.Ytfbmlnajnlekbaa
/- THE CELL 'sum', in the pinned program and in every row, IS THE sha256 OF THE DUMP (.gsa) THAT YtfbmlnajnlekbaaProg.lean LOADS. Nothing in Lean hashes anything: it is a label: what it is worth is what the hold of that sum in a sandbox is worth. -/
noncomputable def Try.pinned : Pinned := { name := "ytfbmlnajnlekbaa", sum := "1f2cb22bf30a8551e56df6596e7c5181c640159f1c1fb34ffd570505ca65c0bd", checked := Try.checked }
namespace Rows
def none {H : Type} : Left H := { results := [], args := [] }

/-- 'burgagelaw6.MbapNumbers': WHATEVER THE INPUT: true; the input reads as it did. -/
def mbapNumbersSpec : ChangeSpec := { name := "mbapNumbers", fn := fun _ => fun
  | [] => { results := [.lit (.bool true)], args := [] }
  | _ => none }
def mbapNumbersRow : OpenClaim := { program := "ytfbmlnajnlekbaa", sum := "1f2cb22bf30a8551e56df6596e7c5181c640159f1c1fb34ffd570505ca65c0bd", func := "burgage/burgagelaw6.MbapNumbers", spec := "mbapNumbers", apart := false }
def MbapNumbersSaid : Prop := mbapNumbersRow.holds Try.pinned (OpenSpec.ofChange mbapNumbersSpec)

/-- ITS FALSE NEIGHBOUR: 'it returns false'. Refute it at one input. -/
def mbapNumbersWrong : ChangeSpec := { name := "mbapNumbers", fn := fun _ => fun
  | [] => { results := [.lit (.bool false)], args := [] }
  | _ => none }
def MbapNumbersWrongFalsely : Prop := mbapNumbersRow.holds Try.pinned (OpenSpec.ofChange mbapNumbersWrong)

/-- 'burgagelaw6.MbapPlays': WHATEVER THE INPUT: true; the input reads as it did. -/
def mbapPlaysSpec : ChangeSpec := { name := "mbapPlays", fn := fun _ => fun
  | [d1, d2, d3, d4, d5, d6, d7] => { results := [.lit (.bool true)], args := [d1, d2, d3, d4, d5, d6, d7] }
  | _ => none }
def mbapPlaysRow : OpenClaim := { program := "ytfbmlnajnlekbaa", sum := "1f2cb22bf30a8551e56df6596e7c5181c640159f1c1fb34ffd570505ca65c0bd", func := "burgage/burgagelaw6.MbapPlays", spec := "mbapPlays", apart := false }
def MbapPlaysSaid : Prop := mbapPlaysRow.holds Try.pinned (OpenSpec.ofChange mbapPlaysSpec)

/-- ITS FALSE NEIGHBOUR: 'it returns false'. Refute it at one input. -/
def mbapPlaysWrong : ChangeSpec := { name := "mbapPlays", fn := fun _ => fun
  | [d1, d2, d3, d4, d5, d6, d7] => { results := [.lit (.bool false)], args := [d1, d2, d3, d4, d5, d6, d7] }
  | _ => none }
def MbapPlaysWrongFalsely : Prop := mbapPlaysRow.holds Try.pinned (OpenSpec.ofChange mbapPlaysWrong)

/-- 'burgagelaw6.MbapWhole': WHATEVER THE INPUT: true; the input reads as it did. -/
def mbapWholeSpec : ChangeSpec := { name := "mbapWhole", fn := fun _ => fun
  | [d1, d2] => { results := [.lit (.bool true)], args := [d1, d2] }
  | _ => none }
def mbapWholeRow : OpenClaim := { program := "ytfbmlnajnlekbaa", sum := "1f2cb22bf30a8551e56df6596e7c5181c640159f1c1fb34ffd570505ca65c0bd", func := "burgage/burgagelaw6.MbapWhole", spec := "mbapWhole", apart := false }
def MbapWholeSaid : Prop := mbapWholeRow.holds Try.pinned (OpenSpec.ofChange mbapWholeSpec)

/-- ITS FALSE NEIGHBOUR: 'it returns false'. Refute it at one input. -/
def mbapWholeWrong : ChangeSpec := { name := "mbapWhole", fn := fun _ => fun
  | [d1, d2] => { results := [.lit (.bool false)], args := [d1, d2] }
  | _ => none }
def MbapWholeWrongFalsely : Prop := mbapWholeRow.holds Try.pinned (OpenSpec.ofChange mbapWholeWrong)

/-- 'burgagelaw6.MbapShut': WHATEVER THE INPUT: true; the input reads as it did. -/
def mbapShutSpec : ChangeSpec := { name := "mbapShut", fn := fun _ => fun
  | [d1, d2] => { results := [.lit (.bool true)], args := [d1, d2] }
  | _ => none }
def mbapShutRow : OpenClaim := { program := "ytfbmlnajnlekbaa", sum := "1f2cb22bf30a8551e56df6596e7c5181c640159f1c1fb34ffd570505ca65c0bd", func := "burgage/burgagelaw6.MbapShut", spec := "mbapShut", apart := false }
def MbapShutSaid : Prop := mbapShutRow.holds Try.pinned (OpenSpec.ofChange mbapShutSpec)

/-- ITS FALSE NEIGHBOUR: 'it returns false'. Refute it at one input. -/
def mbapShutWrong : ChangeSpec := { name := "mbapShut", fn := fun _ => fun
  | [d1, d2] => { results := [.lit (.bool false)], args := [d1, d2] }
  | _ => none }
def MbapShutWrongFalsely : Prop := mbapShutRow.holds Try.pinned (OpenSpec.ofChange mbapShutWrong)

/-- 'burgagelaw1.OctetNumbers': WHATEVER THE INPUT: true; the input reads as it did. -/
def octetNumbersSpec : ChangeSpec := { name := "octetNumbers", fn := fun _ => fun
  | [] => { results := [.lit (.bool true)], args := [] }
  | _ => none }
def octetNumbersRow : OpenClaim := { program := "ytfbmlnajnlekbaa", sum := "1f2cb22bf30a8551e56df6596e7c5181c640159f1c1fb34ffd570505ca65c0bd", func := "burgage/burgagelaw1.OctetNumbers", spec := "octetNumbers", apart := false }
def OctetNumbersSaid : Prop := octetNumbersRow.holds Try.pinned (OpenSpec.ofChange octetNumbersSpec)

/-- ITS FALSE NEIGHBOUR: 'it returns false'. Refute it at one input. -/
def octetNumbersWrong : ChangeSpec := { name := "octetNumbers", fn := fun _ => fun
  | [] => { results := [.lit (.bool false)], args := [] }
  | _ => none }
def OctetNumbersWrongFalsely : Prop := octetNumbersRow.holds Try.pinned (OpenSpec.ofChange octetNumbersWrong)

/-- 'burgagelaw1.OctetTells': WHATEVER THE INPUT: true; the input reads as it did. -/
def octetTellsSpec : ChangeSpec := { name := "octetTells", fn := fun _ => fun
  | [d1, d2, d3, d4, d5] => { results := [.lit (.bool true)], args := [d1, d2, d3, d4, d5] }
  | _ => none }
def octetTellsRow : OpenClaim := { program := "ytfbmlnajnlekbaa", sum := "1f2cb22bf30a8551e56df6596e7c5181c640159f1c1fb34ffd570505ca65c0bd", func := "burgage/burgagelaw1.OctetTells", spec := "octetTells", apart := false }
def OctetTellsSaid : Prop := octetTellsRow.holds Try.pinned (OpenSpec.ofChange octetTellsSpec)

/-- ITS FALSE NEIGHBOUR: 'it returns false'. Refute it at one input. -/
def octetTellsWrong : ChangeSpec := { name := "octetTells", fn := fun _ => fun
  | [d1, d2, d3, d4, d5] => { results := [.lit (.bool false)], args := [d1, d2, d3, d4, d5] }
  | _ => none }
def OctetTellsWrongFalsely : Prop := octetTellsRow.holds Try.pinned (OpenSpec.ofChange octetTellsWrong)

/-- 'burgagelaw1.OctetBack': WHATEVER THE INPUT: true; the input reads as it did. -/
def octetBackSpec : ChangeSpec := { name := "octetBack", fn := fun _ => fun
  | [d1, d2, d3, d4] => { results := [.lit (.bool true)], args := [d1, d2, d3, d4] }
  | _ => none }
def octetBackRow : OpenClaim := { program := "ytfbmlnajnlekbaa", sum := "1f2cb22bf30a8551e56df6596e7c5181c640159f1c1fb34ffd570505ca65c0bd", func := "burgage/burgagelaw1.OctetBack", spec := "octetBack", apart := false }
def OctetBackSaid : Prop := octetBackRow.holds Try.pinned (OpenSpec.ofChange octetBackSpec)

/-- ITS FALSE NEIGHBOUR: 'it returns false'. Refute it at one input. -/
def octetBackWrong : ChangeSpec := { name := "octetBack", fn := fun _ => fun
  | [d1, d2, d3, d4] => { results := [.lit (.bool false)], args := [d1, d2, d3, d4] }
  | _ => none }
def OctetBackWrongFalsely : Prop := octetBackRow.holds Try.pinned (OpenSpec.ofChange octetBackWrong)

/-- 'burgagelaw1.OctetParts': WHATEVER THE INPUT: true; the input reads as it did. -/
def octetPartsSpec : ChangeSpec := { name := "octetParts", fn := fun _ => fun
  | [d1, d2, d3, d4] => { results := [.lit (.bool true)], args := [d1, d2, d3, d4] }
  | _ => none }
def octetPartsRow : OpenClaim := { program := "ytfbmlnajnlekbaa", sum := "1f2cb22bf30a8551e56df6596e7c5181c640159f1c1fb34ffd570505ca65c0bd", func := "burgage/burgagelaw1.OctetParts", spec := "octetParts", apart := false }
def OctetPartsSaid : Prop := octetPartsRow.holds Try.pinned (OpenSpec.ofChange octetPartsSpec)

/-- ITS FALSE NEIGHBOUR: 'it returns false'. Refute it at one input. -/
def octetPartsWrong : ChangeSpec := { name := "octetParts", fn := fun _ => fun
  | [d1, d2, d3, d4] => { results := [.lit (.bool false)], args := [d1, d2, d3, d4] }
  | _ => none }
def OctetPartsWrongFalsely : Prop := octetPartsRow.holds Try.pinned (OpenSpec.ofChange octetPartsWrong)

/-- 'burgagelaw1.OctetBits': WHATEVER THE INPUT: true; the input reads as it did. -/
def octetBitsSpec : ChangeSpec := { name := "octetBits", fn := fun _ => fun
  | [d1, d2] => { results := [.lit (.bool true)], args := [d1, d2] }
  | _ => none }
def octetBitsRow : OpenClaim := { program := "ytfbmlnajnlekbaa", sum := "1f2cb22bf30a8551e56df6596e7c5181c640159f1c1fb34ffd570505ca65c0bd", func := "burgage/burgagelaw1.OctetBits", spec := "octetBits", apart := false }
def OctetBitsSaid : Prop := octetBitsRow.holds Try.pinned (OpenSpec.ofChange octetBitsSpec)

/-- ITS FALSE NEIGHBOUR: 'it returns false'. Refute it at one input. -/
def octetBitsWrong : ChangeSpec := { name := "octetBits", fn := fun _ => fun
  | [d1, d2] => { results := [.lit (.bool false)], args := [d1, d2] }
  | _ => none }
def OctetBitsWrongFalsely : Prop := octetBitsRow.holds Try.pinned (OpenSpec.ofChange octetBitsWrong)

/-- 'burgagelaw8.StoreNumbers': WHATEVER THE INPUT: true; the input reads as it did. -/
def storeNumbersSpec : ChangeSpec := { name := "storeNumbers", fn := fun _ => fun
  | [] => { results := [.lit (.bool true)], args := [] }
  | _ => none }
def storeNumbersRow : OpenClaim := { program := "ytfbmlnajnlekbaa", sum := "1f2cb22bf30a8551e56df6596e7c5181c640159f1c1fb34ffd570505ca65c0bd", func := "burgage/burgagelaw8.StoreNumbers", spec := "storeNumbers", apart := false }
def StoreNumbersSaid : Prop := storeNumbersRow.holds Try.pinned (OpenSpec.ofChange storeNumbersSpec)

/-- ITS FALSE NEIGHBOUR: 'it returns false'. Refute it at one input. -/
def storeNumbersWrong : ChangeSpec := { name := "storeNumbers", fn := fun _ => fun
  | [] => { results := [.lit (.bool false)], args := [] }
  | _ => none }
def StoreNumbersWrongFalsely : Prop := storeNumbersRow.holds Try.pinned (OpenSpec.ofChange storeNumbersWrong)

/-- 'burgagelaw8.StorePlays': WHATEVER THE INPUT: true; the input reads as it did. -/
def storePlaysSpec : ChangeSpec := { name := "storePlays", fn := fun _ => fun
  | [d1, d2] => { results := [.lit (.bool true)], args := [d1, d2] }
  | _ => none }
def storePlaysRow : OpenClaim := { program := "ytfbmlnajnlekbaa", sum := "1f2cb22bf30a8551e56df6596e7c5181c640159f1c1fb34ffd570505ca65c0bd", func := "burgage/burgagelaw8.StorePlays", spec := "storePlays", apart := false }
def StorePlaysSaid : Prop := storePlaysRow.holds Try.pinned (OpenSpec.ofChange storePlaysSpec)

/-- ITS FALSE NEIGHBOUR: 'it returns false'. Refute it at one input. -/
def storePlaysWrong : ChangeSpec := { name := "storePlays", fn := fun _ => fun
  | [d1, d2] => { results := [.lit (.bool false)], args := [d1, d2] }
  | _ => none }
def StorePlaysWrongFalsely : Prop := storePlaysRow.holds Try.pinned (OpenSpec.ofChange storePlaysWrong)

/-- 'burgagelaw8.StoreApart': WHATEVER THE INPUT: true; the input reads as it did. -/
def storeApartSpec : ChangeSpec := { name := "storeApart", fn := fun _ => fun
  | [d1, d2, d3] => { results := [.lit (.bool true)], args := [d1, d2, d3] }
  | _ => none }
def storeApartRow : OpenClaim := { program := "ytfbmlnajnlekbaa", sum := "1f2cb22bf30a8551e56df6596e7c5181c640159f1c1fb34ffd570505ca65c0bd", func := "burgage/burgagelaw8.StoreApart", spec := "storeApart", apart := false }
def StoreApartSaid : Prop := storeApartRow.holds Try.pinned (OpenSpec.ofChange storeApartSpec)

/-- ITS FALSE NEIGHBOUR: 'it returns false'. Refute it at one input. -/
def storeApartWrong : ChangeSpec := { name := "storeApart", fn := fun _ => fun
  | [d1, d2, d3] => { results := [.lit (.bool false)], args := [d1, d2, d3] }
  | _ => none }
def StoreApartWrongFalsely : Prop := storeApartRow.holds Try.pinned (OpenSpec.ofChange storeApartWrong)

/- THE SECOND FORM. 'bulk': how many values and letters a reading holds, each counted each time it is reached (what is shared counts as often as it is met; a slice's spare places count too). A statement '..UptoSaid' is the law's where the arguments, and the package variables that the reading takes, are together of bulk at most 1048576: NARROWER than '..Said'. Prove '..Said' where nothing that the law and all that it calls make is longer than what came in: it says more and counts as full. Else prove '..UptoSaid'. A law counts once. -/
mutual
def uptoBulk {H : Type} : DataW H → Nat
  | .lit (.string bytes) => bytes.length + 1
  | .lit _ => 1
  | .nil => 1
  | .ptr d => uptoBulk d + 1
  | .slice elems spare => uptoBulkAll elems + uptoBulkAll spare + 1
  | .agg parts => uptoBulkAll parts + 1
  | .iface _ d => uptoBulk d + 1
  | .map entries => uptoBulkEntries entries + 1
  | .held _ => 1
def uptoBulkAll {H : Type} : List (DataW H) → Nat
  | [] => 0
  | d :: r => uptoBulk d + uptoBulkAll r
def uptoBulkEntries {H : Type} : List (Lit × DataW H) → Nat
  | [] => 0
  | x :: r => uptoBulkEntry x + uptoBulkEntries r
def uptoBulkEntry {H : Type} : Lit × DataW H → Nat
  | (.string bytes, d) => bytes.length + uptoBulk d + 1
  | (_, d) => uptoBulk d + 1
 end
def uptoSmall : (H : Type) → List (DataW H) → Bool := fun _ ds => decide (uptoBulkAll ds ≤ 1048576)
def OpenSpec.upto (s : _root_.Go.ChangeSpec) : _root_.Go.OpenSpec := { _root_.Go.OpenSpec.ofChange s with cond := some uptoSmall }

/-- 'burgagelaw6.MbapNumbers', WHERE WHAT IT READS IS OF BULK AT MOST 1048576: true; the input reads as it did. -/
def mbapNumbersUptoRow : OpenClaim := { program := "ytfbmlnajnlekbaa", sum := "1f2cb22bf30a8551e56df6596e7c5181c640159f1c1fb34ffd570505ca65c0bd", func := "burgage/burgagelaw6.MbapNumbers", spec := "mbapNumbers", apart := false, narrowed := true }
def MbapNumbersUptoSaid : Prop := mbapNumbersUptoRow.holds Try.pinned (OpenSpec.upto mbapNumbersSpec)

/-- 'burgagelaw6.MbapPlays', WHERE WHAT IT READS IS OF BULK AT MOST 1048576: true; the input reads as it did. -/
def mbapPlaysUptoRow : OpenClaim := { program := "ytfbmlnajnlekbaa", sum := "1f2cb22bf30a8551e56df6596e7c5181c640159f1c1fb34ffd570505ca65c0bd", func := "burgage/burgagelaw6.MbapPlays", spec := "mbapPlays", apart := false, narrowed := true }
def MbapPlaysUptoSaid : Prop := mbapPlaysUptoRow.holds Try.pinned (OpenSpec.upto mbapPlaysSpec)

/-- 'burgagelaw6.MbapWhole', WHERE WHAT IT READS IS OF BULK AT MOST 1048576: true; the input reads as it did. -/
def mbapWholeUptoRow : OpenClaim := { program := "ytfbmlnajnlekbaa", sum := "1f2cb22bf30a8551e56df6596e7c5181c640159f1c1fb34ffd570505ca65c0bd", func := "burgage/burgagelaw6.MbapWhole", spec := "mbapWhole", apart := false, narrowed := true }
def MbapWholeUptoSaid : Prop := mbapWholeUptoRow.holds Try.pinned (OpenSpec.upto mbapWholeSpec)

/-- 'burgagelaw6.MbapShut', WHERE WHAT IT READS IS OF BULK AT MOST 1048576: true; the input reads as it did. -/
def mbapShutUptoRow : OpenClaim := { program := "ytfbmlnajnlekbaa", sum := "1f2cb22bf30a8551e56df6596e7c5181c640159f1c1fb34ffd570505ca65c0bd", func := "burgage/burgagelaw6.MbapShut", spec := "mbapShut", apart := false, narrowed := true }
def MbapShutUptoSaid : Prop := mbapShutUptoRow.holds Try.pinned (OpenSpec.upto mbapShutSpec)

/-- 'burgagelaw1.OctetNumbers', WHERE WHAT IT READS IS OF BULK AT MOST 1048576: true; the input reads as it did. -/
def octetNumbersUptoRow : OpenClaim := { program := "ytfbmlnajnlekbaa", sum := "1f2cb22bf30a8551e56df6596e7c5181c640159f1c1fb34ffd570505ca65c0bd", func := "burgage/burgagelaw1.OctetNumbers", spec := "octetNumbers", apart := false, narrowed := true }
def OctetNumbersUptoSaid : Prop := octetNumbersUptoRow.holds Try.pinned (OpenSpec.upto octetNumbersSpec)

/-- 'burgagelaw1.OctetTells', WHERE WHAT IT READS IS OF BULK AT MOST 1048576: true; the input reads as it did. -/
def octetTellsUptoRow : OpenClaim := { program := "ytfbmlnajnlekbaa", sum := "1f2cb22bf30a8551e56df6596e7c5181c640159f1c1fb34ffd570505ca65c0bd", func := "burgage/burgagelaw1.OctetTells", spec := "octetTells", apart := false, narrowed := true }
def OctetTellsUptoSaid : Prop := octetTellsUptoRow.holds Try.pinned (OpenSpec.upto octetTellsSpec)

/-- 'burgagelaw1.OctetBack', WHERE WHAT IT READS IS OF BULK AT MOST 1048576: true; the input reads as it did. -/
def octetBackUptoRow : OpenClaim := { program := "ytfbmlnajnlekbaa", sum := "1f2cb22bf30a8551e56df6596e7c5181c640159f1c1fb34ffd570505ca65c0bd", func := "burgage/burgagelaw1.OctetBack", spec := "octetBack", apart := false, narrowed := true }
def OctetBackUptoSaid : Prop := octetBackUptoRow.holds Try.pinned (OpenSpec.upto octetBackSpec)

/-- 'burgagelaw1.OctetParts', WHERE WHAT IT READS IS OF BULK AT MOST 1048576: true; the input reads as it did. -/
def octetPartsUptoRow : OpenClaim := { program := "ytfbmlnajnlekbaa", sum := "1f2cb22bf30a8551e56df6596e7c5181c640159f1c1fb34ffd570505ca65c0bd", func := "burgage/burgagelaw1.OctetParts", spec := "octetParts", apart := false, narrowed := true }
def OctetPartsUptoSaid : Prop := octetPartsUptoRow.holds Try.pinned (OpenSpec.upto octetPartsSpec)

/-- 'burgagelaw1.OctetBits', WHERE WHAT IT READS IS OF BULK AT MOST 1048576: true; the input reads as it did. -/
def octetBitsUptoRow : OpenClaim := { program := "ytfbmlnajnlekbaa", sum := "1f2cb22bf30a8551e56df6596e7c5181c640159f1c1fb34ffd570505ca65c0bd", func := "burgage/burgagelaw1.OctetBits", spec := "octetBits", apart := false, narrowed := true }
def OctetBitsUptoSaid : Prop := octetBitsUptoRow.holds Try.pinned (OpenSpec.upto octetBitsSpec)

/-- 'burgagelaw8.StoreNumbers', WHERE WHAT IT READS IS OF BULK AT MOST 1048576: true; the input reads as it did. -/
def storeNumbersUptoRow : OpenClaim := { program := "ytfbmlnajnlekbaa", sum := "1f2cb22bf30a8551e56df6596e7c5181c640159f1c1fb34ffd570505ca65c0bd", func := "burgage/burgagelaw8.StoreNumbers", spec := "storeNumbers", apart := false, narrowed := true }
def StoreNumbersUptoSaid : Prop := storeNumbersUptoRow.holds Try.pinned (OpenSpec.upto storeNumbersSpec)

/-- 'burgagelaw8.StorePlays', WHERE WHAT IT READS IS OF BULK AT MOST 1048576: true; the input reads as it did. -/
def storePlaysUptoRow : OpenClaim := { program := "ytfbmlnajnlekbaa", sum := "1f2cb22bf30a8551e56df6596e7c5181c640159f1c1fb34ffd570505ca65c0bd", func := "burgage/burgagelaw8.StorePlays", spec := "storePlays", apart := false, narrowed := true }
def StorePlaysUptoSaid : Prop := storePlaysUptoRow.holds Try.pinned (OpenSpec.upto storePlaysSpec)

/-- 'burgagelaw8.StoreApart', WHERE WHAT IT READS IS OF BULK AT MOST 1048576: true; the input reads as it did. -/
def storeApartUptoRow : OpenClaim := { program := "ytfbmlnajnlekbaa", sum := "1f2cb22bf30a8551e56df6596e7c5181c640159f1c1fb34ffd570505ca65c0bd", func := "burgage/burgagelaw8.StoreApart", spec := "storeApart", apart := false, narrowed := true }
def StoreApartUptoSaid : Prop := storeApartUptoRow.holds Try.pinned (OpenSpec.upto storeApartSpec)

end Rows
end Go.Proofs.Ytfbmlnajnlekbaa

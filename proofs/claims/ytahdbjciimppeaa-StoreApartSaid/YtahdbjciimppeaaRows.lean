/-
  No cell of these rows narrows 'for every input' (looked for: loops, veiled, ifaces, maps, wideKeys, modest, calm, conditions, laid).
  DERIVED. THE GIVEN ROWS OF THIS SEAT. 4 by the template 'for every input the law returns true; each argument reads behind the call as it read before'; 0 by the template 'total and deterministic' (their statements: YtahdbjciimppeaaTotals.lean).
  GIVEN WITH THE SEED: the statements are not yours to turn. If you find one false, say at which input.
  Laid BY PROGRAM, IN A SANDBOX (cutbox-rows.mjs): the forced cells as the released guide's own fill.sh prints them over the translation 222def316ae0e710… (all of the seat's roots in one cut). By AI agents, Wed Nov 11 2026. No macro, syntax, notation, axiom, sorry.
-/
import Derived.Test.YtahdbjciimppeaaChecked
import GoSem.Claim
import GoSem.ClaimJoined
import GoSem.ClaimMapViews
import Derived.JoinedTies
import Derived.KernelRfl
namespace Go.Proofs.Ytahdbjciimppeaa
/- THE CELL 'sum', in the pinned program and in every row, IS THE sha256 OF THE DUMP (.gsa) THAT YtahdbjciimppeaaProg.lean LOADS. Nothing in Lean hashes anything: it is a label: what it is worth is what the hold of that sum in a sandbox is worth. -/
noncomputable def Try.pinned : Pinned := { name := "ytahdbjciimppeaa", sum := "222def316ae0e710abfa09bb6a492dd4306dbf504427baeb87304f82b6d1e06d", checked := Try.checked }
namespace Rows
def none {H : Type} : Left H := { results := [], args := [] }

/-- 'burgagelaw8.StoreNumbers': WHATEVER THE INPUT: true; the input reads as it did. -/
def storeNumbersSpec : ChangeSpec := { name := "storeNumbers", fn := fun _ => fun
  | [] => { results := [.lit (.bool true)], args := [] }
  | _ => none }
def storeNumbersRow : OpenClaim := { program := "ytahdbjciimppeaa", sum := "222def316ae0e710abfa09bb6a492dd4306dbf504427baeb87304f82b6d1e06d", func := "burgage/burgagelaw8.StoreNumbers", spec := "storeNumbers", apart := false }
def StoreNumbersSaid : Prop := storeNumbersRow.holds Try.pinned (OpenSpec.ofChange storeNumbersSpec)

/-- ITS FALSE NEIGHBOUR: 'it returns false'. Refute it at one input. -/
def storeNumbersWrong : ChangeSpec := { name := "storeNumbers", fn := fun _ => fun
  | [] => { results := [.lit (.bool false)], args := [] }
  | _ => none }
def StoreNumbersWrongFalsely : Prop := storeNumbersRow.holds Try.pinned (OpenSpec.ofChange storeNumbersWrong)

/-- 'burgagelaw8.StorePlays': WHATEVER THE INPUT: true; the input reads as it did. -/
def storePlaysSpec : ChangeSpec := { name := "storePlays", fn := fun _ => fun
  | [d1, d2] => { results := [.lit (.bool true)], args := [d1, d2] }
  | _ => none }
def storePlaysRow : OpenClaim := { program := "ytahdbjciimppeaa", sum := "222def316ae0e710abfa09bb6a492dd4306dbf504427baeb87304f82b6d1e06d", func := "burgage/burgagelaw8.StorePlays", spec := "storePlays", apart := false }
def StorePlaysSaid : Prop := storePlaysRow.holds Try.pinned (OpenSpec.ofChange storePlaysSpec)

/-- ITS FALSE NEIGHBOUR: 'it returns false'. Refute it at one input. -/
def storePlaysWrong : ChangeSpec := { name := "storePlays", fn := fun _ => fun
  | [d1, d2] => { results := [.lit (.bool false)], args := [d1, d2] }
  | _ => none }
def StorePlaysWrongFalsely : Prop := storePlaysRow.holds Try.pinned (OpenSpec.ofChange storePlaysWrong)

/-- 'burgagelaw8.StoreApart': WHATEVER THE INPUT: true; the input reads as it did. -/
def storeApartSpec : ChangeSpec := { name := "storeApart", fn := fun _ => fun
  | [d1, d2, d3] => { results := [.lit (.bool true)], args := [d1, d2, d3] }
  | _ => none }
def storeApartRow : OpenClaim := { program := "ytahdbjciimppeaa", sum := "222def316ae0e710abfa09bb6a492dd4306dbf504427baeb87304f82b6d1e06d", func := "burgage/burgagelaw8.StoreApart", spec := "storeApart", apart := false }
def StoreApartSaid : Prop := storeApartRow.holds Try.pinned (OpenSpec.ofChange storeApartSpec)

/-- ITS FALSE NEIGHBOUR: 'it returns false'. Refute it at one input. -/
def storeApartWrong : ChangeSpec := { name := "storeApart", fn := fun _ => fun
  | [d1, d2, d3] => { results := [.lit (.bool false)], args := [d1, d2, d3] }
  | _ => none }
def StoreApartWrongFalsely : Prop := storeApartRow.holds Try.pinned (OpenSpec.ofChange storeApartWrong)

/-- 'burgagelaw8.StoreSpaces': WHATEVER THE INPUT: true; the input reads as it did. -/
def storeSpacesSpec : ChangeSpec := { name := "storeSpaces", fn := fun _ => fun
  | [d1, d2, d3, d4] => { results := [.lit (.bool true)], args := [d1, d2, d3, d4] }
  | _ => none }
def storeSpacesRow : OpenClaim := { program := "ytahdbjciimppeaa", sum := "222def316ae0e710abfa09bb6a492dd4306dbf504427baeb87304f82b6d1e06d", func := "burgage/burgagelaw8.StoreSpaces", spec := "storeSpaces", apart := false }
def StoreSpacesSaid : Prop := storeSpacesRow.holds Try.pinned (OpenSpec.ofChange storeSpacesSpec)

/-- ITS FALSE NEIGHBOUR: 'it returns false'. Refute it at one input. -/
def storeSpacesWrong : ChangeSpec := { name := "storeSpaces", fn := fun _ => fun
  | [d1, d2, d3, d4] => { results := [.lit (.bool false)], args := [d1, d2, d3, d4] }
  | _ => none }
def StoreSpacesWrongFalsely : Prop := storeSpacesRow.holds Try.pinned (OpenSpec.ofChange storeSpacesWrong)

/- THE SECOND FORM. 'bulk': how many values and letters a reading holds, each counted each time it is reached (what is shared counts as often as it is met; a slice's spare places count too). A statement '..UptoSaid' is the law's where the arguments, and the package variables that the reading takes, are together of bulk at most 1048576: NARROWER than '..Said'. Prove '..Said' where nothing that the law and all that it calls make is longer than what came in: it says more and counts as full. Else prove '..UptoSaid'. A law counts once. -/
mutual
def uptoBulk {H : Type} : DataW H → Nat
  | .lit (.string bytes) => bytes.length + 1
  | .lit _ => 1
  | .nil => 1
  | .ptr d => uptoBulk d + 1
  | .slice elems spare => uptoBulkAll elems + uptoBulkAll spare + 1
  | .agg parts => uptoBulkAll parts + 1
  | .iface _ d => uptoBulk d + 1
  | .map entries => uptoBulkEntries entries + 1
  | .held _ => 1
def uptoBulkAll {H : Type} : List (DataW H) → Nat
  | [] => 0
  | d :: r => uptoBulk d + uptoBulkAll r
def uptoBulkEntries {H : Type} : List (Lit × DataW H) → Nat
  | [] => 0
  | x :: r => uptoBulkEntry x + uptoBulkEntries r
def uptoBulkEntry {H : Type} : Lit × DataW H → Nat
  | (.string bytes, d) => bytes.length + uptoBulk d + 1
  | (_, d) => uptoBulk d + 1
 end
def uptoSmall : (H : Type) → List (DataW H) → Bool := fun _ ds => decide (uptoBulkAll ds ≤ 1048576)
def OpenSpec.upto (s : _root_.Go.ChangeSpec) : _root_.Go.OpenSpec := { _root_.Go.OpenSpec.ofChange s with cond := some uptoSmall }

/-- 'burgagelaw8.StoreNumbers', WHERE WHAT IT READS IS OF BULK AT MOST 1048576: true; the input reads as it did. -/
def storeNumbersUptoRow : OpenClaim := { program := "ytahdbjciimppeaa", sum := "222def316ae0e710abfa09bb6a492dd4306dbf504427baeb87304f82b6d1e06d", func := "burgage/burgagelaw8.StoreNumbers", spec := "storeNumbers", apart := false, narrowed := true }
def StoreNumbersUptoSaid : Prop := storeNumbersUptoRow.holds Try.pinned (OpenSpec.upto storeNumbersSpec)

/-- 'burgagelaw8.StorePlays', WHERE WHAT IT READS IS OF BULK AT MOST 1048576: true; the input reads as it did. -/
def storePlaysUptoRow : OpenClaim := { program := "ytahdbjciimppeaa", sum := "222def316ae0e710abfa09bb6a492dd4306dbf504427baeb87304f82b6d1e06d", func := "burgage/burgagelaw8.StorePlays", spec := "storePlays", apart := false, narrowed := true }
def StorePlaysUptoSaid : Prop := storePlaysUptoRow.holds Try.pinned (OpenSpec.upto storePlaysSpec)

/-- 'burgagelaw8.StoreApart', WHERE WHAT IT READS IS OF BULK AT MOST 1048576: true; the input reads as it did. -/
def storeApartUptoRow : OpenClaim := { program := "ytahdbjciimppeaa", sum := "222def316ae0e710abfa09bb6a492dd4306dbf504427baeb87304f82b6d1e06d", func := "burgage/burgagelaw8.StoreApart", spec := "storeApart", apart := false, narrowed := true }
def StoreApartUptoSaid : Prop := storeApartUptoRow.holds Try.pinned (OpenSpec.upto storeApartSpec)

/-- 'burgagelaw8.StoreSpaces', WHERE WHAT IT READS IS OF BULK AT MOST 1048576: true; the input reads as it did. -/
def storeSpacesUptoRow : OpenClaim := { program := "ytahdbjciimppeaa", sum := "222def316ae0e710abfa09bb6a492dd4306dbf504427baeb87304f82b6d1e06d", func := "burgage/burgagelaw8.StoreSpaces", spec := "storeSpaces", apart := false, narrowed := true }
def StoreSpacesUptoSaid : Prop := storeSpacesUptoRow.holds Try.pinned (OpenSpec.upto storeSpacesSpec)

end Rows
end Go.Proofs.Ytahdbjciimppeaa

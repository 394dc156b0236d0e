/-
  No cell of these rows narrows 'for every input' (looked for: loops, veiled, ifaces, maps, wideKeys, modest, calm, conditions, laid).
  DERIVED. THE GIVEN ROWS OF THIS SEAT. 6 by the template 'for every input the law returns true; each argument reads behind the call as it read before'; 0 by the template 'total and deterministic' (their statements: YtmingcnmgdgokaaGreatTotals.lean).
  GIVEN WITH THE SEED: the statements are not yours to turn. If you find one false, say at which input.
  Laid BY PROGRAM, IN A SANDBOX (cutbox-rows.mjs): the forced cells as the released guide's own fill.sh prints them over the translation 7f58e64014075b9a… (all of the seat's roots in one cut). By AI agents, Wed Nov 11 2026. No macro, syntax, notation, axiom, sorry.
-/
import Derived.Test.YtmingcnmgdgokaaGreatChecked
import GoSem.Claim
import GoSem.ClaimJoined
import GoSem.ClaimMapViews
import Derived.JoinedTies
import Derived.KernelRfl
namespace Go.Proofs.YtmingcnmgdgokaaGreat
/- THE CELL 'sum', in the pinned program and in every row, IS THE sha256 OF THE DUMP (.gsa) THAT YtmingcnmgdgokaaGreatProg.lean LOADS. Nothing in Lean hashes anything: it is a label: what it is worth is what the hold of that sum in a sandbox is worth. -/
noncomputable def Tryz.pinned : Pinned := { name := "ytmingcnmgdgokaagreat", sum := "7f58e64014075b9ab72f2158d18702f8db94bbd4ac08283d2a5d63010eb9100c", checked := Tryz.checked }
namespace Rows
def none {H : Type} : Left H := { results := [], args := [] }

/-- 'burgagetop.TopLater': WHATEVER THE INPUT: true; the input reads as it did. -/
def topLaterSpec : ChangeSpec := { name := "topLater", fn := fun _ => fun
  | [d1, d2, d3] => { results := [.lit (.bool true)], args := [d1, d2, d3] }
  | _ => none }
def topLaterRow : OpenClaim := { program := "ytmingcnmgdgokaagreat", sum := "7f58e64014075b9ab72f2158d18702f8db94bbd4ac08283d2a5d63010eb9100c", func := "burgage/burgagetop.TopLater", spec := "topLater", unfollowed := true, recurses := true, apart := false }
def TopLaterSaid : Prop := topLaterRow.holds Tryz.pinned (OpenSpec.ofChange topLaterSpec)

/-- ITS FALSE NEIGHBOUR: 'it returns false'. Refute it at one input. -/
def topLaterWrong : ChangeSpec := { name := "topLater", fn := fun _ => fun
  | [d1, d2, d3] => { results := [.lit (.bool false)], args := [d1, d2, d3] }
  | _ => none }
def TopLaterWrongFalsely : Prop := topLaterRow.holds Tryz.pinned (OpenSpec.ofChange topLaterWrong)

/-- 'burgagetop.TopRefused': WHATEVER THE INPUT: true; the input reads as it did. -/
def topRefusedSpec : ChangeSpec := { name := "topRefused", fn := fun _ => fun
  | [d1, d2, d3] => { results := [.lit (.bool true)], args := [d1, d2, d3] }
  | _ => none }
def topRefusedRow : OpenClaim := { program := "ytmingcnmgdgokaagreat", sum := "7f58e64014075b9ab72f2158d18702f8db94bbd4ac08283d2a5d63010eb9100c", func := "burgage/burgagetop.TopRefused", spec := "topRefused", unfollowed := true, recurses := true, apart := false }
def TopRefusedSaid : Prop := topRefusedRow.holds Tryz.pinned (OpenSpec.ofChange topRefusedSpec)

/-- ITS FALSE NEIGHBOUR: 'it returns false'. Refute it at one input. -/
def topRefusedWrong : ChangeSpec := { name := "topRefused", fn := fun _ => fun
  | [d1, d2, d3] => { results := [.lit (.bool false)], args := [d1, d2, d3] }
  | _ => none }
def TopRefusedWrongFalsely : Prop := topRefusedRow.holds Tryz.pinned (OpenSpec.ofChange topRefusedWrong)

/-- 'burgagetop.TopCounts': WHATEVER THE INPUT: true; the input reads as it did. -/
def topCountsSpec : ChangeSpec := { name := "topCounts", fn := fun _ => fun
  | [d1, d2] => { results := [.lit (.bool true)], args := [d1, d2] }
  | _ => none }
def topCountsRow : OpenClaim := { program := "ytmingcnmgdgokaagreat", sum := "7f58e64014075b9ab72f2158d18702f8db94bbd4ac08283d2a5d63010eb9100c", func := "burgage/burgagetop.TopCounts", spec := "topCounts", unfollowed := true, recurses := true, apart := false }
def TopCountsSaid : Prop := topCountsRow.holds Tryz.pinned (OpenSpec.ofChange topCountsSpec)

/-- ITS FALSE NEIGHBOUR: 'it returns false'. Refute it at one input. -/
def topCountsWrong : ChangeSpec := { name := "topCounts", fn := fun _ => fun
  | [d1, d2] => { results := [.lit (.bool false)], args := [d1, d2] }
  | _ => none }
def TopCountsWrongFalsely : Prop := topCountsRow.holds Tryz.pinned (OpenSpec.ofChange topCountsWrong)

/-- 'burgagetop.TopMask': WHATEVER THE INPUT: true; the input reads as it did. -/
def topMaskSpec : ChangeSpec := { name := "topMask", fn := fun _ => fun
  | [d1, d2, d3, d4, d5] => { results := [.lit (.bool true)], args := [d1, d2, d3, d4, d5] }
  | _ => none }
def topMaskRow : OpenClaim := { program := "ytmingcnmgdgokaagreat", sum := "7f58e64014075b9ab72f2158d18702f8db94bbd4ac08283d2a5d63010eb9100c", func := "burgage/burgagetop.TopMask", spec := "topMask", unfollowed := true, recurses := true, apart := false }
def TopMaskSaid : Prop := topMaskRow.holds Tryz.pinned (OpenSpec.ofChange topMaskSpec)

/-- ITS FALSE NEIGHBOUR: 'it returns false'. Refute it at one input. -/
def topMaskWrong : ChangeSpec := { name := "topMask", fn := fun _ => fun
  | [d1, d2, d3, d4, d5] => { results := [.lit (.bool false)], args := [d1, d2, d3, d4, d5] }
  | _ => none }
def TopMaskWrongFalsely : Prop := topMaskRow.holds Tryz.pinned (OpenSpec.ofChange topMaskWrong)

/-- 'burgagetop.TopClosed': WHATEVER THE INPUT: true; the input reads as it did. -/
def topClosedSpec : ChangeSpec := { name := "topClosed", fn := fun _ => fun
  | [d1, d2] => { results := [.lit (.bool true)], args := [d1, d2] }
  | _ => none }
def topClosedRow : OpenClaim := { program := "ytmingcnmgdgokaagreat", sum := "7f58e64014075b9ab72f2158d18702f8db94bbd4ac08283d2a5d63010eb9100c", func := "burgage/burgagetop.TopClosed", spec := "topClosed", unfollowed := true, recurses := true, apart := false }
def TopClosedSaid : Prop := topClosedRow.holds Tryz.pinned (OpenSpec.ofChange topClosedSpec)

/-- ITS FALSE NEIGHBOUR: 'it returns false'. Refute it at one input. -/
def topClosedWrong : ChangeSpec := { name := "topClosed", fn := fun _ => fun
  | [d1, d2] => { results := [.lit (.bool false)], args := [d1, d2] }
  | _ => none }
def TopClosedWrongFalsely : Prop := topClosedRow.holds Tryz.pinned (OpenSpec.ofChange topClosedWrong)

/-- 'burgagetop.TopOwn': WHATEVER THE INPUT: true; the input reads as it did. -/
def topOwnSpec : ChangeSpec := { name := "topOwn", fn := fun _ => fun
  | [d1, d2, d3, d4] => { results := [.lit (.bool true)], args := [d1, d2, d3, d4] }
  | _ => none }
def topOwnRow : OpenClaim := { program := "ytmingcnmgdgokaagreat", sum := "7f58e64014075b9ab72f2158d18702f8db94bbd4ac08283d2a5d63010eb9100c", func := "burgage/burgagetop.TopOwn", spec := "topOwn", unfollowed := true, recurses := true, apart := false }
def TopOwnSaid : Prop := topOwnRow.holds Tryz.pinned (OpenSpec.ofChange topOwnSpec)

/-- ITS FALSE NEIGHBOUR: 'it returns false'. Refute it at one input. -/
def topOwnWrong : ChangeSpec := { name := "topOwn", fn := fun _ => fun
  | [d1, d2, d3, d4] => { results := [.lit (.bool false)], args := [d1, d2, d3, d4] }
  | _ => none }
def TopOwnWrongFalsely : Prop := topOwnRow.holds Tryz.pinned (OpenSpec.ofChange topOwnWrong)

/- THE SECOND FORM. 'bulk': how many values and letters a reading holds, each counted each time it is reached (what is shared counts as often as it is met; a slice's spare places count too). A statement '..UptoSaid' is the law's where the arguments, and the package variables that the reading takes, are together of bulk at most 1048576: NARROWER than '..Said'. Prove '..Said' where nothing that the law and all that it calls make is longer than what came in: it says more and counts as full. Else prove '..UptoSaid'. A law counts once. -/
mutual
def uptoBulk {H : Type} : DataW H → Nat
  | .lit (.string bytes) => bytes.length + 1
  | .lit _ => 1
  | .nil => 1
  | .ptr d => uptoBulk d + 1
  | .slice elems spare => uptoBulkAll elems + uptoBulkAll spare + 1
  | .agg parts => uptoBulkAll parts + 1
  | .iface _ d => uptoBulk d + 1
  | .map entries => uptoBulkEntries entries + 1
  | .held _ => 1
def uptoBulkAll {H : Type} : List (DataW H) → Nat
  | [] => 0
  | d :: r => uptoBulk d + uptoBulkAll r
def uptoBulkEntries {H : Type} : List (Lit × DataW H) → Nat
  | [] => 0
  | x :: r => uptoBulkEntry x + uptoBulkEntries r
def uptoBulkEntry {H : Type} : Lit × DataW H → Nat
  | (.string bytes, d) => bytes.length + uptoBulk d + 1
  | (_, d) => uptoBulk d + 1
 end
def uptoSmall : (H : Type) → List (DataW H) → Bool := fun _ ds => decide (uptoBulkAll ds ≤ 1048576)
def OpenSpec.upto (s : _root_.Go.ChangeSpec) : _root_.Go.OpenSpec := { _root_.Go.OpenSpec.ofChange s with cond := some uptoSmall }

/-- 'burgagetop.TopLater', WHERE WHAT IT READS IS OF BULK AT MOST 1048576: true; the input reads as it did. -/
def topLaterUptoRow : OpenClaim := { program := "ytmingcnmgdgokaagreat", sum := "7f58e64014075b9ab72f2158d18702f8db94bbd4ac08283d2a5d63010eb9100c", func := "burgage/burgagetop.TopLater", spec := "topLater", unfollowed := true, recurses := true, apart := false, narrowed := true }
def TopLaterUptoSaid : Prop := topLaterUptoRow.holds Tryz.pinned (OpenSpec.upto topLaterSpec)

/-- 'burgagetop.TopRefused', WHERE WHAT IT READS IS OF BULK AT MOST 1048576: true; the input reads as it did. -/
def topRefusedUptoRow : OpenClaim := { program := "ytmingcnmgdgokaagreat", sum := "7f58e64014075b9ab72f2158d18702f8db94bbd4ac08283d2a5d63010eb9100c", func := "burgage/burgagetop.TopRefused", spec := "topRefused", unfollowed := true, recurses := true, apart := false, narrowed := true }
def TopRefusedUptoSaid : Prop := topRefusedUptoRow.holds Tryz.pinned (OpenSpec.upto topRefusedSpec)

/-- 'burgagetop.TopCounts', WHERE WHAT IT READS IS OF BULK AT MOST 1048576: true; the input reads as it did. -/
def topCountsUptoRow : OpenClaim := { program := "ytmingcnmgdgokaagreat", sum := "7f58e64014075b9ab72f2158d18702f8db94bbd4ac08283d2a5d63010eb9100c", func := "burgage/burgagetop.TopCounts", spec := "topCounts", unfollowed := true, recurses := true, apart := false, narrowed := true }
def TopCountsUptoSaid : Prop := topCountsUptoRow.holds Tryz.pinned (OpenSpec.upto topCountsSpec)

/-- 'burgagetop.TopMask', WHERE WHAT IT READS IS OF BULK AT MOST 1048576: true; the input reads as it did. -/
def topMaskUptoRow : OpenClaim := { program := "ytmingcnmgdgokaagreat", sum := "7f58e64014075b9ab72f2158d18702f8db94bbd4ac08283d2a5d63010eb9100c", func := "burgage/burgagetop.TopMask", spec := "topMask", unfollowed := true, recurses := true, apart := false, narrowed := true }
def TopMaskUptoSaid : Prop := topMaskUptoRow.holds Tryz.pinned (OpenSpec.upto topMaskSpec)

/-- 'burgagetop.TopClosed', WHERE WHAT IT READS IS OF BULK AT MOST 1048576: true; the input reads as it did. -/
def topClosedUptoRow : OpenClaim := { program := "ytmingcnmgdgokaagreat", sum := "7f58e64014075b9ab72f2158d18702f8db94bbd4ac08283d2a5d63010eb9100c", func := "burgage/burgagetop.TopClosed", spec := "topClosed", unfollowed := true, recurses := true, apart := false, narrowed := true }
def TopClosedUptoSaid : Prop := topClosedUptoRow.holds Tryz.pinned (OpenSpec.upto topClosedSpec)

/-- 'burgagetop.TopOwn', WHERE WHAT IT READS IS OF BULK AT MOST 1048576: true; the input reads as it did. -/
def topOwnUptoRow : OpenClaim := { program := "ytmingcnmgdgokaagreat", sum := "7f58e64014075b9ab72f2158d18702f8db94bbd4ac08283d2a5d63010eb9100c", func := "burgage/burgagetop.TopOwn", spec := "topOwn", unfollowed := true, recurses := true, apart := false, narrowed := true }
def TopOwnUptoSaid : Prop := topOwnUptoRow.holds Tryz.pinned (OpenSpec.upto topOwnSpec)

end Rows
end Go.Proofs.YtmingcnmgdgokaaGreat

/- Structures for the program's, and how they are told: printed by a program of this session (wip/tools/gotypes.py). -/
import Derived.Test.YteedhlgdbankiaaPvAD
namespace Go.Proofs.Yteedhlgdbankiaa
open Go Go.Proofs.Yteedhlgdbankiaa.Pv
structure TAsk where
  kind : Int
  id : Int
  pdu : List UInt8
  deriving DecidableEq, Inhabited
abbrev eAsk (x : TAsk) : FV := .agg [encI x.kind, encI x.id, (encS 1 enc8) x.pdu]
structure TMsg where
  id : Int
  unit : Int
  pdu : List UInt8
  deriving DecidableEq, Inhabited
abbrev eMsg (x : TMsg) : FV := .agg [encI x.id, encI x.unit, (encS 1 enc8) x.pdu]
structure TSpan where
  at_ : Int
  count : Int
  deriving DecidableEq, Inhabited
abbrev eSpan (x : TSpan) : FV := .agg [encI x.at_, encI x.count]
structure TQueue where
  l : List TMsg
  most : Int
  refused : Int
  deriving DecidableEq, Inhabited
abbrev eQueue (x : TQueue) : FV := .agg [(encS 3 eMsg) x.l, encI x.most, encI x.refused]
end Go.Proofs.Yteedhlgdbankiaa

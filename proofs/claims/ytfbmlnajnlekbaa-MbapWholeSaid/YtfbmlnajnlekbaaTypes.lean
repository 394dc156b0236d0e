/- Structures for the program's, and how they are told: printed by a program of this session (wip/tools/gotypes.py). -/
import Derived.Test.YtfbmlnajnlekbaaPvAD
namespace Go.Proofs.Ytfbmlnajnlekbaa
open Go Go.Proofs.Ytfbmlnajnlekbaa.Pv
structure TMsg where
  id : Int
  unit : Int
  pdu : List UInt8
  deriving DecidableEq, Inhabited
abbrev eMsg (x : TMsg) : FV := .agg [encI x.id, encI x.unit, (encS 1 enc8) x.pdu]
structure TAsk where
  kind : Int
  space : Int
  at_ : Int
  n : Int
  b : List Bool
  v : List UInt16
  deriving DecidableEq, Inhabited
abbrev eAsk (x : TAsk) : FV := .agg [encI x.kind, encI x.space, encI x.at_, encI x.n, (encS 1 encBo) x.b, (encS 1 enc16) x.v]
structure TTape where
  l : List Int
  at_ : Int
  deriving DecidableEq, Inhabited
abbrev eTape (x : TTape) : FV := .agg [(encS 1 encI) x.l, encI x.at_]
structure TStream where
  b : List UInt8
  shut : Bool
  deriving DecidableEq, Inhabited
abbrev eStream (x : TStream) : FV := .agg [(encS 1 enc8) x.b, encBo x.shut]
structure TStream_ where
  b : List UInt8
  closed : Bool
  deriving DecidableEq, Inhabited
abbrev eStream_ (x : TStream_) : FV := .agg [(encS 1 enc8) x.b, encBo x.closed]
structure TRequest where
  fn : Int
  at_ : Int
  count : Int
  wAt : Int
  sub : Int
  bits : List Bool
  vals : List UInt16
  and_ : UInt16
  or_ : UInt16
  deriving DecidableEq, Inhabited
abbrev eRequest (x : TRequest) : FV := .agg [encI x.fn, encI x.at_, encI x.count, encI x.wAt, encI x.sub, (encS 1 encBo) x.bits, (encS 1 enc16) x.vals, enc16 x.and_, enc16 x.or_]
end Go.Proofs.Ytfbmlnajnlekbaa

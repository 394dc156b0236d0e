/- Structures for the program's, and how they are told: printed by a program of this session (wip/tools/gotypes.py). -/
import Derived.Test.YtmcgjmpcfiefgaaPvAG
namespace Go.Proofs.Ytmcgjmpcfiefgaa
open Go Go.Proofs.Ytmcgjmpcfiefgaa.Pv
structure TTape where
  l : List Int
  at_ : Int
  deriving DecidableEq, Inhabited
abbrev eTape (x : TTape) : FV := .agg [(encS 1 encI) x.l, encI x.at_]
structure TRequest where
  fn : Int
  at_ : Int
  count : Int
  wAt : Int
  sub : Int
  bits : List Bool
  vals : List UInt16
  and_ : UInt16
  or_ : UInt16
  deriving DecidableEq, Inhabited
abbrev eRequest (x : TRequest) : FV := .agg [encI x.fn, encI x.at_, encI x.count, encI x.wAt, encI x.sub, (encS 1 encBo) x.bits, (encS 1 enc16) x.vals, enc16 x.and_, enc16 x.or_]
structure TAsk where
  kind : Int
  n : Int
  q : TRequest
  deriving DecidableEq, Inhabited
abbrev eAsk (x : TAsk) : FV := .agg [encI x.kind, encI x.n, encI x.q.fn, encI x.q.at_, encI x.q.count, encI x.q.wAt, encI x.q.sub, (encS 1 encBo) x.q.bits, (encS 1 enc16) x.q.vals, enc16 x.q.and_, enc16 x.q.or_]
structure TReply where
  fn : Int
  code : Int
  at_ : Int
  count : Int
  sub : Int
  bits : List Bool
  vals : List UInt16
  and_ : UInt16
  or_ : UInt16
  data : List UInt8
  deriving DecidableEq, Inhabited
abbrev eReply (x : TReply) : FV := .agg [encI x.fn, encI x.code, encI x.at_, encI x.count, encI x.sub, (encS 1 encBo) x.bits, (encS 1 enc16) x.vals, enc16 x.and_, enc16 x.or_, (encS 1 enc8) x.data]
structure TCount where
  m : Int
  e : Int
  b : Int
  deriving DecidableEq, Inhabited
abbrev eCount (x : TCount) : FV := .agg [encI x.m, encI x.e, encI x.b]
structure TCount_ where
  messages : Int
  exceptions : Int
  bad : Int
  deriving DecidableEq, Inhabited
abbrev eCount_ (x : TCount_) : FV := .agg [encI x.messages, encI x.exceptions, encI x.bad]
end Go.Proofs.Ytmcgjmpcfiefgaa

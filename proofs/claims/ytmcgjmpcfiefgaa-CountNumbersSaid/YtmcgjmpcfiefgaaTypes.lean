/- Structures for the program's, and how they are told: printed by a program of this session (wip/tools/gotypes.py). -/
import Derived.Test.YtmcgjmpcfiefgaaPvAJ
import Derived.Test.YtmcgjmpcfiefgaaTab
set_option linter.unusedVariables false
namespace Go.Proofs.Ytmcgjmpcfiefgaa
open Go Go.Proofs.Ytmcgjmpcfiefgaa.Pv
end Go.Proofs.Ytmcgjmpcfiefgaa
namespace Go.Proofs.Ytmcgjmpcfiefgaa.Pv
open Go
theorem qo {c : Ctx} {nx nt : Nat} {env : Env} {H : Heap} {Q : Post} {ops : Array Oper} {rest : List Oper} {dst : Option Nat} {op : Op} {t : Nat} {p : String} {a : Array Edge} (hnt : c.nt = nt) (hd : dstOk nt dst = true) (h : stepOp Try.prog tab env nx H (fun pv nx' H' => R Try.prog c ops rest (putE dst pv env) nx' H' Q) op) : R Try.prog c ops (⟨dst, op, t, p, a, none⟩ :: rest) env nx H Q := r_op tabOk hnt hd h
theorem qm {c : Ctx} {nx nt : Nat} {env : Env} {H : Heap} {Q : Post} {ops : Array Oper} {rest : List Oper} {dst : Option Nat} {t : Nat} {p : String} {a : Array Edge} {x : Operand} {pv : PV} (hnt : c.nt = nt) (hd : dstOk nt dst = true) (h : ev env x = some pv) (k : R Try.prog c ops rest (putE dst pv env) nx H Q) : R Try.prog c ops (⟨dst, .move x, t, p, a, none⟩ :: rest) env nx H Q := r_op tabOk hnt hd (s_move h k)
theorem qa {c : Ctx} {nx nt : Nat} {env : Env} {H : Heap} {Q : Post} {ops : Array Oper} {rest : List Oper} {dst : Option Nat} {t : Nat} {p : String} {a : Array Edge} {x : Operand} {pv : PV} (hnt : c.nt = nt) (hd : dstOk nt dst = true) (h : ev env x = some pv) (k : R Try.prog c ops rest (putE dst pv env) nx H Q) : R Try.prog c ops (⟨dst, .assign x, t, p, a, none⟩ :: rest) env nx H Q := r_op tabOk hnt hd (s_assign h k)
theorem ry {c : Ctx} {nx nt : Nat} {env : Env} {H : Heap} {Q : Post} {ops : Array Oper} {rest : List Oper} {dst : Option Nat} {op : Op} {t : Nat} {p : String} {a : Array Edge} {j d : Nat} {want b : Bool} (hnt : c.nt = nt) (hj : (ops[j]?).bind (·.dst) = some d) (hb : look env d = some (.f (.v (.bool b)))) (hd : dstOk nt dst = true) (e : b = want) (h : R Try.prog c ops (⟨dst, op, t, p, a, none⟩ :: rest) env nx H Q) : R Try.prog c ops (⟨dst, op, t, p, a, some (j, want)⟩ :: rest) env nx H Q := r_if tabOk hnt hj hb hd (fun _ => h) (fun e2 => absurd (e.symm.trans e2) (by cases want <;> decide))
theorem rn {c : Ctx} {nx nt : Nat} {env : Env} {H : Heap} {Q : Post} {ops : Array Oper} {rest : List Oper} {dst : Option Nat} {op : Op} {t : Nat} {p : String} {a : Array Edge} {j d : Nat} {want b : Bool} (hnt : c.nt = nt) (hj : (ops[j]?).bind (·.dst) = some d) (hb : look env d = some (.f (.v (.bool b)))) (hd : dstOk nt dst = true) (e : b = !want) (h : R Try.prog c ops rest (dropE dst env) nx H Q) : R Try.prog c ops (⟨dst, op, t, p, a, some (j, want)⟩ :: rest) env nx H Q := r_if tabOk hnt hj hb hd (fun e2 => absurd (e2.symm.trans e) (by cases want <;> decide)) (fun _ => h)
theorem ru {c : Ctx} {nx nt : Nat} {env : Env} {H : Heap} {Q : Post} {ops : Array Oper} {rest : List Oper} {dst : Option Nat} {op : Op} {t : Nat} {p : String} {a : Array Edge} {j d : Nat} {want : Bool} (hnt : c.nt = nt) (hj : (ops[j]?).bind (·.dst) = some d) (hb : look env d = some undefP) (hd : dstOk nt dst = true) (h : R Try.prog c ops rest (dropE dst env) nx H Q) : R Try.prog c ops (⟨dst, op, t, p, a, some (j, want)⟩ :: rest) env nx H Q := r_undef tabOk hnt hj hb hd h
theorem xy {ops : Array Oper} {B : List (List Nat)} {rest : List Oper} {acc : List Cert} {env : Env} {nx : Nat} {H : Heap} {C : List Cert → Env → Nat → Heap → Prop} {dst : Option Nat} {op : Op} {t : Nat} {p : String} {a : Array Edge} {j d : Nat} {want b : Bool} (E0 : Env) (b0 : List Nat) (hE : cutE ops ⟨dst, op, t, p, a, some (j, want)⟩ env = E0) (hB : B.getD acc.length [] = b0) (hj : (ops[j]?).bind (·.dst) = some d) (hb : look E0 d = some (.f (.v (.bool b)))) (e : b = want) (h : runD Try.prog tab ops B ⟨dst, op, t, p, a, some (j, want)⟩ rest acc env nx H C) : wpd Try.prog tab ops B (⟨dst, op, t, p, a, some (j, want)⟩ :: rest) acc env nx H C := x_if E0 b0 hE hB hj hb (fun _ => h) (fun e2 => absurd (e.symm.trans e2) (by cases want <;> decide))
theorem xn {ops : Array Oper} {B : List (List Nat)} {rest : List Oper} {acc : List Cert} {env : Env} {nx : Nat} {H : Heap} {C : List Cert → Env → Nat → Heap → Prop} {dst : Option Nat} {op : Op} {t : Nat} {p : String} {a : Array Edge} {j d : Nat} {want b : Bool} (E0 : Env) (b0 : List Nat) (hE : cutE ops ⟨dst, op, t, p, a, some (j, want)⟩ env = E0) (hB : B.getD acc.length [] = b0) (hj : (ops[j]?).bind (·.dst) = some d) (hb : look E0 d = some (.f (.v (.bool b)))) (e : b = !want) (h : wpd Try.prog tab ops B rest (⟨⟨dst, op, t, p, a, some (j, want)⟩, some undefP, E0, [], [], [], nx, nx, b0⟩ :: acc) (dropE dst env) nx H C) : wpd Try.prog tab ops B (⟨dst, op, t, p, a, some (j, want)⟩ :: rest) acc env nx H C := x_if E0 b0 hE hB hj hb (fun e2 => absurd (e2.symm.trans e) (by cases want <;> decide)) (fun _ => h)
end Go.Proofs.Ytmcgjmpcfiefgaa.Pv
namespace Go.Proofs.Ytmcgjmpcfiefgaa
open Go Go.Proofs.Ytmcgjmpcfiefgaa.Pv
structure TTape where
  l : List Int
  at_ : Int
  deriving DecidableEq, Inhabited
abbrev eTape (x : TTape) : FV := .agg [(encS 1 encI) x.l, encI x.at_]
structure TRequest where
  fn : Int
  at_ : Int
  count : Int
  wAt : Int
  sub : Int
  bits : List Bool
  vals : List UInt16
  and_ : UInt16
  or_ : UInt16
  deriving DecidableEq, Inhabited
abbrev eRequest (x : TRequest) : FV := .agg [encI x.fn, encI x.at_, encI x.count, encI x.wAt, encI x.sub, (encS 1 encBo) x.bits, (encS 1 enc16) x.vals, enc16 x.and_, enc16 x.or_]
structure TAsk where
  kind : Int
  n : Int
  q : TRequest
  deriving DecidableEq, Inhabited
abbrev eAsk (x : TAsk) : FV := .agg [encI x.kind, encI x.n, encI x.q.fn, encI x.q.at_, encI x.q.count, encI x.q.wAt, encI x.q.sub, (encS 1 encBo) x.q.bits, (encS 1 enc16) x.q.vals, enc16 x.q.and_, enc16 x.q.or_]
structure TReply where
  fn : Int
  code : Int
  at_ : Int
  count : Int
  sub : Int
  bits : List Bool
  vals : List UInt16
  and_ : UInt16
  or_ : UInt16
  data : List UInt8
  deriving DecidableEq, Inhabited
abbrev eReply (x : TReply) : FV := .agg [encI x.fn, encI x.code, encI x.at_, encI x.count, encI x.sub, (encS 1 encBo) x.bits, (encS 1 enc16) x.vals, enc16 x.and_, enc16 x.or_, (encS 1 enc8) x.data]
structure TCount where
  m : Int
  e : Int
  b : Int
  deriving DecidableEq, Inhabited
abbrev eCount (x : TCount) : FV := .agg [encI x.m, encI x.e, encI x.b]
structure TCount_ where
  messages : Int
  exceptions : Int
  bad : Int
  deriving DecidableEq, Inhabited
abbrev eCount_ (x : TCount_) : FV := .agg [encI x.messages, encI x.exceptions, encI x.bad]
end Go.Proofs.Ytmcgjmpcfiefgaa

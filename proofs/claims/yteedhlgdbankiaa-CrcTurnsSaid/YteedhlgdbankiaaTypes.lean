/- Structures for the program's, and how they are told: printed by a program of this session (wip/tools/gotypes.py). -/
import Derived.Test.YteedhlgdbankiaaPvAJ
import Derived.Test.YteedhlgdbankiaaTab
set_option linter.unusedVariables false
namespace Go.Proofs.Yteedhlgdbankiaa
open Go Go.Proofs.Yteedhlgdbankiaa.Pv
end Go.Proofs.Yteedhlgdbankiaa
namespace Go.Proofs.Yteedhlgdbankiaa.Pv
open Go
theorem qo {c : Ctx} {nx nt : Nat} {env : Env} {H : Heap} {Q : Post} {ops : Array Oper} {rest : List Oper} {dst : Option Nat} {op : Op} {t : Nat} {p : String} {a : Array Edge} (hnt : c.nt = nt) (hd : dstOk nt dst = true) (h : stepOp Try.prog tab env nx H (fun pv nx' H' => R Try.prog c ops rest (putE dst pv env) nx' H' Q) op) : R Try.prog c ops (⟨dst, op, t, p, a, none⟩ :: rest) env nx H Q := r_op tabOk hnt hd h
theorem qm {c : Ctx} {nx nt : Nat} {env : Env} {H : Heap} {Q : Post} {ops : Array Oper} {rest : List Oper} {dst : Option Nat} {t : Nat} {p : String} {a : Array Edge} {x : Operand} {pv : PV} (hnt : c.nt = nt) (hd : dstOk nt dst = true) (h : ev env x = some pv) (k : R Try.prog c ops rest (putE dst pv env) nx H Q) : R Try.prog c ops (⟨dst, .move x, t, p, a, none⟩ :: rest) env nx H Q := r_op tabOk hnt hd (s_move h k)
theorem qa {c : Ctx} {nx nt : Nat} {env : Env} {H : Heap} {Q : Post} {ops : Array Oper} {rest : List Oper} {dst : Option Nat} {t : Nat} {p : String} {a : Array Edge} {x : Operand} {pv : PV} (hnt : c.nt = nt) (hd : dstOk nt dst = true) (h : ev env x = some pv) (k : R Try.prog c ops rest (putE dst pv env) nx H Q) : R Try.prog c ops (⟨dst, .assign x, t, p, a, none⟩ :: rest) env nx H Q := r_op tabOk hnt hd (s_assign h k)
theorem ry {c : Ctx} {nx nt : Nat} {env : Env} {H : Heap} {Q : Post} {ops : Array Oper} {rest : List Oper} {dst : Option Nat} {op : Op} {t : Nat} {p : String} {a : Array Edge} {j d : Nat} {want b : Bool} (hnt : c.nt = nt) (hj : (ops[j]?).bind (·.dst) = some d) (hb : look env d = some (.f (.v (.bool b)))) (hd : dstOk nt dst = true) (e : b = want) (h : R Try.prog c ops (⟨dst, op, t, p, a, none⟩ :: rest) env nx H Q) : R Try.prog c ops (⟨dst, op, t, p, a, some (j, want)⟩ :: rest) env nx H Q := r_if tabOk hnt hj hb hd (fun _ => h) (fun e2 => absurd (e.symm.trans e2) (by cases want <;> decide))
theorem rn {c : Ctx} {nx nt : Nat} {env : Env} {H : Heap} {Q : Post} {ops : Array Oper} {rest : List Oper} {dst : Option Nat} {op : Op} {t : Nat} {p : String} {a : Array Edge} {j d : Nat} {want b : Bool} (hnt : c.nt = nt) (hj : (ops[j]?).bind (·.dst) = some d) (hb : look env d = some (.f (.v (.bool b)))) (hd : dstOk nt dst = true) (e : b = !want) (h : R Try.prog c ops rest (dropE dst env) nx H Q) : R Try.prog c ops (⟨dst, op, t, p, a, some (j, want)⟩ :: rest) env nx H Q := r_if tabOk hnt hj hb hd (fun e2 => absurd (e2.symm.trans e) (by cases want <;> decide)) (fun _ => h)
theorem ru {c : Ctx} {nx nt : Nat} {env : Env} {H : Heap} {Q : Post} {ops : Array Oper} {rest : List Oper} {dst : Option Nat} {op : Op} {t : Nat} {p : String} {a : Array Edge} {j d : Nat} {want : Bool} (hnt : c.nt = nt) (hj : (ops[j]?).bind (·.dst) = some d) (hb : look env d = some undefP) (hd : dstOk nt dst = true) (h : R Try.prog c ops rest (dropE dst env) nx H Q) : R Try.prog c ops (⟨dst, op, t, p, a, some (j, want)⟩ :: rest) env nx H Q := r_undef tabOk hnt hj hb hd h
theorem xy {ops : Array Oper} {B : List (List Nat)} {rest : List Oper} {acc : List Cert} {env : Env} {nx : Nat} {H : Heap} {C : List Cert → Env → Nat → Heap → Prop} {dst : Option Nat} {op : Op} {t : Nat} {p : String} {a : Array Edge} {j d : Nat} {want b : Bool} (E0 : Env) (b0 : List Nat) (hE : cutE ops ⟨dst, op, t, p, a, some (j, want)⟩ env = E0) (hB : B.getD acc.length [] = b0) (hj : (ops[j]?).bind (·.dst) = some d) (hb : look E0 d = some (.f (.v (.bool b)))) (e : b = want) (h : runD Try.prog tab ops B ⟨dst, op, t, p, a, some (j, want)⟩ rest acc env nx H C) : wpd Try.prog tab ops B (⟨dst, op, t, p, a, some (j, want)⟩ :: rest) acc env nx H C := x_if E0 b0 hE hB hj hb (fun _ => h) (fun e2 => absurd (e.symm.trans e2) (by cases want <;> decide))
theorem xn {ops : Array Oper} {B : List (List Nat)} {rest : List Oper} {acc : List Cert} {env : Env} {nx : Nat} {H : Heap} {C : List Cert → Env → Nat → Heap → Prop} {dst : Option Nat} {op : Op} {t : Nat} {p : String} {a : Array Edge} {j d : Nat} {want b : Bool} (E0 : Env) (b0 : List Nat) (hE : cutE ops ⟨dst, op, t, p, a, some (j, want)⟩ env = E0) (hB : B.getD acc.length [] = b0) (hj : (ops[j]?).bind (·.dst) = some d) (hb : look E0 d = some (.f (.v (.bool b)))) (e : b = !want) (h : wpd Try.prog tab ops B rest (⟨⟨dst, op, t, p, a, some (j, want)⟩, some undefP, E0, [], [], [], nx, nx, b0⟩ :: acc) (dropE dst env) nx H C) : wpd Try.prog tab ops B (⟨dst, op, t, p, a, some (j, want)⟩ :: rest) acc env nx H C := x_if E0 b0 hE hB hj hb (fun e2 => absurd (e2.symm.trans e) (by cases want <;> decide)) (fun _ => h)
end Go.Proofs.Yteedhlgdbankiaa.Pv
namespace Go.Proofs.Yteedhlgdbankiaa
open Go Go.Proofs.Yteedhlgdbankiaa.Pv
structure TAsk where
  kind : Int
  id : Int
  pdu : List UInt8
  deriving DecidableEq, Inhabited
abbrev eAsk (x : TAsk) : FV := .agg [encI x.kind, encI x.id, (encS 1 enc8) x.pdu]
structure TMsg where
  id : Int
  unit : Int
  pdu : List UInt8
  deriving DecidableEq, Inhabited
abbrev eMsg (x : TMsg) : FV := .agg [encI x.id, encI x.unit, (encS 1 enc8) x.pdu]
structure TSpan where
  at_ : Int
  count : Int
  deriving DecidableEq, Inhabited
abbrev eSpan (x : TSpan) : FV := .agg [encI x.at_, encI x.count]
structure TQueue where
  l : List TMsg
  most : Int
  refused : Int
  deriving DecidableEq, Inhabited
abbrev eQueue (x : TQueue) : FV := .agg [(encS 3 eMsg) x.l, encI x.most, encI x.refused]
end Go.Proofs.Yteedhlgdbankiaa

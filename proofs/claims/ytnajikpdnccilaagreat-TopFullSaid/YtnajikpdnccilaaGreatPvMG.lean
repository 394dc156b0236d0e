/- Calls that are told ahead (rules), and calls that are told of what they reach alone. -/
import Derived.Test.YtnajikpdnccilaaGreatPvML
set_option linter.unusedVariables false
set_option linter.unusedSimpArgs false
namespace Go.Proofs.YtnajikpdnccilaaGreat.Pv.M
open Go

noncomputable section
/-! ### Are two the same? -/
def eqX (a b : Value) : Bool := match a, b with
  | .bool x, .bool y => x == y
  | .pointer none, .pointer none => true
  | .slice none l c, .slice none m d => Nat.beq l m && Nat.beq c d
  | .map none, .map none => true
  | .nilFunc, .nilFunc => true
  | .nilIface, .nilIface => true
  | .string s, .string t => s.data.toList == t.data.toList
  | _, _ => false
def eqK (k : IntKind) (c : Int) (l : List Int) (b : MV) : Bool := onI b (fun j d => oc (keq k j) (oc (ieq c d) (zeroL l))) (fun j d m => oc (keq k j) (oc (ieq c d) (zeroL (addL l (negL m))))) false
def eqV (a : MV) : MV → Bool := @MV.rec (fun _ => MV → Bool) (fun _ => List MV → Bool)
  (fun x b => onS b (fun _ _ _ _ _ => false) (fun _ _ => false) (fun y => eqX x y)) (fun x b => onB b x (not x)) (fun k c b => eqK k c [] b) (fun k c l b => eqK k c l b)
  (fun n o b => onP b fun m p => oc (Nat.beq n m) (Nat.beq o p)) (fun sz n o l c b => onS b (fun sz' n' o' l' c' => oc (Nat.beq n n') (oc (Nat.beq o o') (oc (Nat.beq l l') (oc (Nat.beq sz sz') (decide (c = c')))))) (fun _ _ => false) (fun _ => false))
  (fun _ ih b => onA b ih) (fun _ ih b => onT b ih) (fun f _ _ i1 i2 b => onC b fun g x y => oc (Nat.beq f g) (oc (i1 x) (i2 y))) (fun n b => onM b fun m => Nat.beq n m) (fun t _ ih b => onF b fun u y => oc (Nat.beq t u) (ih y))
  (fun l => nilB l) (fun _ _ i1 i2 l => List.rec (motive := fun _ => Bool) false (fun y t _ => oc (i1 y) (i2 t)) l) a
def eqL (l : List MV) : List MV → Bool := List.rec (motive := fun _ => List MV → Bool) (fun m => nilB m) (fun x _ ih m => List.rec (motive := fun _ => Bool) false (fun y t _ => oc (eqV x y) (ih t)) m) l
def eqR (l : List (MV × MV)) : List (MV × MV) → Bool := List.rec (motive := fun _ => List (MV × MV) → Bool) (fun m => nilB m) (fun x _ ih m => List.rec (motive := fun _ => Bool) false (fun y t _ => oc (eqV x.1 y.1) (oc (eqV x.2 y.2) (ih t))) m) l
def isDead (o : MO) : Bool := MO.rec (motive := fun _ => Bool) (fun _ => false) (fun _ => false) true o
def eqO (a b : MO) : Bool := MO.rec (motive := fun _ => Bool) (fun l => onCells b fun m => eqL l m) (fun l => onMap b fun m => eqR l m) (isDead b) a

/-! ### Another run's variables -/
abbrev Sg := List (Int × List Int)
def subA (σ : Sg) (l : List Int) : Int × List Int := match l with
  | [] => (0, [])
  | a :: l => match σ with
    | [] => (0, [])
    | s :: σ => (a * s.1 + (subA σ l).1, addL (mulL a s.2) (subA σ l).2)
def subN (σ : Sg) (k : IntKind) (c : Int) (l : List Int) : MV := mk k (c + (subA σ l).1) (subA σ l).2
def subV (σ : Sg) (a : MV) : MV := @MV.rec (fun _ => MV) (fun _ => List MV) (fun x => .v x) (fun x => .b x) (fun k c => .n k c) (fun k c l => subN σ k c l) (fun n o => .ptr n o) (fun sz n o l c => .sl sz n o l c) (fun _ ih => .agg ih) (fun _ ih => .tup ih)
  (fun f _ _ i1 i2 => .clo f i1 i2) (fun n => .mp n) (fun t _ ih => .ifc t ih) [] (fun _ _ i1 i2 => i1 :: i2) a
def subO (σ : Sg) (o : MO) : MO := MO.rec (motive := fun _ => MO) (fun l => .cells (mapL (subV σ) l)) (fun es => .map (mapL (fun e => (subV σ e.1, subV σ e.2)) es)) .dead o
def subHp (σ : Sg) (H : Heap) : Heap := mapL (fun p => (p.1, subO σ p.2)) H

/-! ### Rules -/
def layK (l : Heap) : Heap → (Heap → Bool) → Bool := List.rec (motive := fun _ => Heap → (Heap → Bool) → Bool) (fun acc k => k acc) (fun p _ ih acc k => ih (p :: acc) k) l
structure Rule where
  g : Nat
  args : List MV
  m : Nat
  need : Heap
  D : Dm
  res : MV
  out : Heap
  reads : List (Nat × Nat)
/-- A variable is read out of a cell, or is one of the run's own. -/
def unitL (k : Nat) : List Int := Nat.rec (motive := fun _ => List Int) [1] (fun _ ih => 0 :: ih) k
def sgOf (H : Heap) (l : List (Nat × Nat)) : Option Sg := List.rec (motive := fun _ => Option Sg) (some []) (fun p _ ih => Bool.rec (motive := fun _ => Option Sg) (bo (look H p.1) fun o => MO.rec (motive := fun _ => Option Sg) (fun cs => bo (nth cs p.2) fun v =>
  @MV.rec (fun _ => Option Sg) (fun _ => PUnit.{1}) (fun _ => none) (fun _ => none) (fun _ c => bo ih fun r => some ((c, []) :: r)) (fun _ c l => bo ih fun r => some ((c, l) :: r)) (fun _ _ => none) (fun _ _ _ _ _ => none) (fun _ _ => none) (fun _ _ => none) (fun _ _ _ _ _ => none) (fun _ => none) (fun _ _ _ => none) PUnit.unit (fun _ _ _ _ => PUnit.unit) v) (fun _ => none) none o) (bo ih fun r => some ((0, unitL p.2) :: r)) (Nat.ble 1000000 p.1)) l
def okB (D : Dm) (σ : Sg) (bs : List (Int × Int)) : Bool := match bs with
  | [] => true
  | b :: bs => match σ with
    | [] => false
    | s :: σ => cond (ge0 D (s.1 - b.1) s.2) (cond (ge0 D (b.2 - s.1) (negL s.2)) (okB D σ bs) false) false
def okF (D : Dm) (σ : Sg) (fs : List (Int × List Int)) : Bool := match fs with
  | [] => true
  | f :: fs => cond (ge0 D (f.1 + (subA σ f.2).1) (subA σ f.2).2) (okF D σ fs) false
def someB {α : Type} (o : Option α) : Bool := Option.rec (motive := fun _ => Bool) false (fun _ => true) o
/-- Is all as a rule wants it? -/
def hit (D : Dm) (r : Rule) (args : List MV) (nx : Nat) (H : Heap) (σ : Sg) : Bool :=
  oc (Nat.ble r.m nx) (oc (eqL (mapL (subV σ) r.args) args) (oc (allB (fun p => ob (look H p.1) fun o => eqO (subO σ p.2) o) r.need) (oc (okB D σ r.D.bs) (okF D σ r.D.fs))))
def ruleW (D : Dm) (r : Rule) (e : CallK) : CallK := fun g args nx H k => ow (Nat.beq g r.g) (Option.rec (motive := fun _ => Bool) (e g args nx H k) (fun σ => ow (hit D r args nx H σ) (layK (subHp σ r.out) H fun Hf => k (subV σ r.res) nx Hf) (e g args nx H k)) (sgOf H r.reads)) (e g args nx H k)
def rulesW (D : Dm) (rs : List Rule) (e : CallK) : CallK := List.rec (motive := fun _ => CallK) e (fun r _ ih => ruleW D r ih) rs
/-- Does a rule speak of its own names alone? -/
def fineB (r : Rule) : Bool := oc (allB (hasV fun n => Nat.ble (Nat.succ n) r.m) r.args) (oc (hasV (fun n => Nat.ble (Nat.succ n) r.m) r.res) (oc (allB (fun p => oc (Nat.ble (Nat.succ p.1) r.m) (hasO (fun n => Nat.ble (Nat.succ n) r.m) p.2)) r.need)
  (allB (fun p => oc (someB (look r.need p.1)) (hasO (fun n => Nat.ble (Nat.succ n) r.m) p.2)) r.out)))
def laterO (r : Rule) (n : Nat) (o : MO) : MO := Option.rec (motive := fun _ => MO) o (fun o => o) (look r.out n)
/-- What a run must leave, for a rule to be so. -/
def keptB (r : Rule) : KV := fun v _ H => oc (eqV v r.res) (allB (fun p => ob (look H p.1) fun o => eqO o (laterO r p.1 p.2)) r.need)

/-! ### What a call reaches -/
def namesV (a : MV) : List Nat → List Nat := @MV.rec (fun _ => List Nat → List Nat) (fun _ => List Nat → List Nat) (fun _ r => r) (fun _ r => r) (fun _ _ r => r) (fun _ _ _ r => r) (fun n _ r => n :: r) (fun _ n _ _ _ r => n :: r) (fun _ ih r => ih r) (fun _ ih r => ih r)
  (fun _ _ _ i1 i2 r => i1 (i2 r)) (fun n r => n :: r) (fun _ _ ih r => ih r) (fun r => r) (fun _ _ i1 i2 r => i1 (i2 r)) a
def namesL (l : List MV) (r : List Nat) : List Nat := List.rec (motive := fun _ => List Nat) r (fun x _ ih => namesV x ih) l
def namesO (o : MO) (r : List Nat) : List Nat := MO.rec (motive := fun _ => List Nat) (fun l => namesL l r) (fun es => List.rec (motive := fun _ => List Nat) r (fun e _ ih => namesV e.1 (namesV e.2 ih)) es) r o
/-- A row that begins with four numbers speaks of no names. -/
def isNum (a : MV) : Bool := @MV.rec (fun _ => Bool) (fun _ => PUnit.{1}) (fun _ => false) (fun _ => true) (fun _ _ => true) (fun _ _ _ => true) (fun _ _ => false) (fun _ _ _ _ _ => false) (fun _ _ => false) (fun _ _ => false) (fun _ _ _ _ _ => false) (fun _ => false) (fun _ _ _ => false) PUnit.unit (fun _ _ _ _ => PUnit.unit) a
def plainN (l : List MV) (n : Nat) : Bool := Nat.rec (motive := fun _ => List MV → Bool) (fun _ => true) (fun _ ih l => List.rec (motive := fun _ => Bool) false (fun x t _ => oc (isNum x) (ih t)) l) n l
def namesB (o : MO) (r : List Nat) : List Nat := MO.rec (motive := fun _ => List Nat) (fun l => Bool.rec (motive := fun _ => List Nat) (namesL l r) r (plainN l 16)) (fun _ => namesO o r) r o
def mark (H : Heap) (f : Nat) : List Nat → Heap → Heap := Nat.rec (motive := fun _ => List Nat → Heap → Heap) (fun _ acc => acc)
  (fun _ ih todo acc => List.rec (motive := fun _ => Heap) acc (fun n t _ => Option.rec (motive := fun _ => Heap) (Option.rec (motive := fun _ => Heap) (ih t acc) (fun o => ih (namesB o t) ((n, o) :: acc)) (look H n)) (fun _ => ih t acc) (look acc n)) todo) f
def keys (H : Heap) (r : List Nat) : List Nat := List.rec (motive := fun _ => List Nat) r (fun p _ ih => p.1 :: ih) H
/-- Those of a part that were turned. -/
def keepK (d : Heap) (l : Heap) : Heap → (Heap → Bool) → Bool := List.rec (motive := fun _ => Heap → (Heap → Bool) → Bool) (fun acc k => k acc) (fun p _ ih acc k => Option.rec (motive := fun _ => Bool) (ih acc k) (fun _ => ih (p :: acc) k) (look d p.1)) l
def gcK (nx : Nat) (HS H : Heap) (k : KV) : KV := fun v nx' HS' => ob (takeN (Nat.sub (len HS') (len HS)) HS') fun d => keepK d (mark HS' 5000 (namesV v (keys HS [])) []) [] fun acc =>
  oc (allB (fun p => Nat.ble (Nat.succ p.1) nx) HS) (oc (allB (fun p => ow (Nat.ble nx p.1) true (oc (someB (look HS p.1)) (someB (look acc p.1)))) d) (layK acc H fun Hf => k v nx' Hf))
def gcC (e : CallK) : CallK := fun g args nx H k => (fun HS => e g args nx HS (gcK nx HS H k)) (mark H 5000 (namesL args []) [])
def gcW (gs : List Nat) (e : CallK) : CallK := fun g args nx H k => List.rec (motive := fun _ => Bool) (e g args nx H k) (fun f _ ih => ow (Nat.beq f g) (gcC e g args nx H k) ih) gs
/-- Runs of whole functions, with some calls told ahead. -/
def runG (P : Program) (D : Dm) (rs : List Rule) (gs : List Nat) (n : Nat) : CallK := Nat.rec (motive := fun _ => CallK) (fun _ _ _ _ _ => false) (fun _ ih => rulesW D rs (gcW gs (stepF P D ih))) n
end
end Go.Proofs.YtnajikpdnccilaaGreat.Pv.M

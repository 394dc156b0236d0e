/- What one operation does, told of abstract values: the plain ones. -/
import Derived.Test.YtnajikpdnccilaaGreatPvA
import Derived.WalkKit
namespace Go.Proofs.YtnajikpdnccilaaGreat.Pv
open Go

inductive Kd where
  | bool | int (k : IntKind) | str | ptr (e : Nat) | slice (e : Nat) | arr (n e : Nat) | struct (fs : List (Nat × Nat)) | func | other
  deriving Inhabited

/-- What a walk knows of a type. -/
structure TI where
  kd : Kd
  size : Nat
  bytes : Nat
  zero : List Value
  deriving Inhabited

def Kd.agg : Kd → Bool
  | .arr .. | .struct _ => true
  | _ => false

def Under (P : Program) (t : Nat) : Kd → Prop
  | .bool => P.underlying t = some .bool
  | .int k => P.underlying t = some (.int k)
  | .str => P.underlying t = some .string
  | .ptr e => P.underlying t = some (.pointer e)
  | .slice e => P.underlying t = some (.slice e)
  | .arr n e => P.underlying t = some (.array n e)
  | .struct fs => ∃ F, P.underlying t = some (.struct F) ∧ F.toList.map (fun f => (f.offset, f.type)) = fs
  | .func => ∃ a b c, P.underlying t = some (.func a b c)
  | .other => False

structure TIok (P : Program) (t : Nat) (i : TI) : Prop where
  info : ∃ ti z, P.info? t = some ti ∧ ti.size = i.size ∧ ti.bytes = i.bytes ∧ ti.zero = some z ∧ z.cells = i.zero.toArray ∧ (i.kd.agg = true → z = .agg i.zero.toArray)
  under : Under P t i.kd
  len : i.zero.length = i.size
  ones : ∀ z ∈ i.zero, one z = true

abbrev Tab := Nat → Option TI
def TabOk (P : Program) (tab : Tab) : Prop := ∀ t i, tab t = some i → TIok P t i

def AllTI (P : Program) : List (Nat × TI) → Prop
  | [] => True
  | p :: t => TIok P p.1 p.2 ∧ AllTI P t

theorem TabOk.of {P : Program} {l : List (Nat × TI)} (h : AllTI P l) : TabOk P (look l) := by
  intro t i hi
  have hm := look_mem hi
  induction l with
  | nil => cases hm
  | cons p l ih =>
    rcases List.mem_cons.1 hm with e | e
    · subst e; exact h.1
    · have : ∀ l : List (Nat × TI), AllTI P l → ∀ q, q ∈ l → TIok P q.1 q.2 := by
        intro l; induction l with
        | nil => intro _ q hq; cases hq
        | cons p l ih =>
          intro ha q hq
          rcases List.mem_cons.1 hq with e | e
          · subst e; exact ha.1
          · exact ih ha.2 q e
      exact this l h.2 _ e

theorem one_of_list {l : List (Nat × TI)} (h : (l.all fun p => p.2.kd.agg || p.2.size == 1) = true) : ∀ e ie, look l e = some ie → ie.kd.agg = false → ie.size = 1 := by
  intro e ie he ha
  have := List.all_eq_true.1 h _ (look_mem he)
  simp only [ha, Bool.false_or, beq_iff_eq] at this
  exact this

theorem TIok.of {P : Program} {t : Nat} {i : TI} {z : Value} (h : (P.info? t).map (fun j => (j.zero, j.size, j.bytes)) = some (some z, i.size, i.bytes)) (hz : z.cells = i.zero.toArray) (ha : i.kd.agg = true → z = .agg i.zero.toArray)
    (hl : i.zero.length = i.size) (hu : Under P t i.kd) (ho : (i.zero.all fun v => one v) = true) : TIok P t i := by
  cases hq : P.info? t with
  | none => rw [hq] at h; cases h
  | some ti =>
    rw [hq] at h
    simp only [Option.map_some, Option.some.injEq, Prod.mk.injEq] at h
    exact ⟨⟨ti, z, hq, h.2.1, h.2.2, h.1, hz, ha⟩, hu, hl, fun v hv => List.all_eq_true.1 ho v hv⟩

def ev (env : Env) : Operand → Option PV
  | .tmp t => look env t
  | .const v => some (.f (.v v))
  | .func f => some (.clo (.func f) [])
  | .global _ => none

abbrev act (tmps : Array Value) : Act := { tmps, defers := [] }

theorem ev_rep {c : Ctx} {nx : Nat} {env : Env} {H : Heap} {φ : Nat → Phys} {tmps : Array Value} {w : World} (h : StΦ c nx env H φ tmps w) {x : Operand} {pv : PV}
    (hx : ev env x = some pv) : Rep φ nx w (SS c.So φ H) pv ((act tmps).eval x) := by
  cases x with
  | tmp t =>
    obtain ⟨v, h1, h2⟩ := h.env t pv hx
    have : (act tmps).eval (.tmp t) = v := by simp [Act.eval, Array.getD_eq_getD_getElem?, h1]
    rw [this]; exact h2
  | const v => simp only [ev, Option.some.injEq] at hx; subst hx; exact .f (.v v)
  | func f => simp only [ev, Option.some.injEq] at hx; subst hx; exact .clo (.func f) [] #[] rfl (by simp)
  | global g => cases hx

/-- One operation, from all that fits: what it leaves is told by K. -/
def Does (P : Program) (o : Oper) (c : Ctx) (nx : Nat) (env : Env) (H : Heap) (K : PV → Nat → Heap → Prop) : Prop :=
  ∀ φ tmps w, StΦ c nx env H φ tmps w → ∀ (next : Act → World → Prop) (Q : Exit → Act → World → Prop),
    (∀ pv nx' H' φ' v w', K pv nx' H' → StΦ c nx' env H' φ' tmps w' → Rep φ' nx' w' (SS c.So φ' H') pv v → next ((act tmps).put o.dst v) w') →
    o.wp P (act tmps) w next Q

theorem Does.mono {P : Program} {o : Oper} {c : Ctx} {nx : Nat} {env : Env} {H : Heap} {K K' : PV → Nat → Heap → Prop} (h : Does P o c nx env H K)
    (hk : ∀ pv nx' H', K pv nx' H' → K' pv nx' H') : Does P o c nx env H K' :=
  fun φ tmps w hs next Q hn => h φ tmps w hs next Q fun pv nx' H' φ' v w' k => hn pv nx' H' φ' v w' (hk _ _ _ k)

theorem Does.value {P : Program} {o : Oper} {c : Ctx} {nx : Nat} {env : Env} {H : Heap} {K : PV → Nat → Heap → Prop}
    (h : ∀ φ tmps w, StΦ c nx env H φ tmps w → ∃ pv nx' H' φ' v w', (execOp (act tmps).eval o).run P w = .ok (.value v) w' ∧ K pv nx' H' ∧
      StΦ c nx' env H' φ' tmps w' ∧ Rep φ' nx' w' (SS c.So φ' H') pv v) : Does P o c nx env H K := by
  intro φ tmps w hs next Q hn
  obtain ⟨pv, nx', H', φ', v, w', hr, hk, hs', hrep⟩ := h φ tmps w hs
  unfold Oper.wp
  rw [hr, Oper.upon_value]
  exact hn pv nx' H' φ' v w' hk hs' hrep

/-- An operation that leaves memory as it is. -/
theorem Does.pure {P : Program} {o : Oper} {c : Ctx} {nx : Nat} {env : Env} {H : Heap} {K : PV → Nat → Heap → Prop}
    (h : ∀ φ tmps w, StΦ c nx env H φ tmps w → ∃ pv v, (execOp (act tmps).eval o).run P w = .ok (.value v) w ∧ K pv nx H ∧ Rep φ nx w (SS c.So φ H) pv v) :
    Does P o c nx env H K :=
  Does.value fun φ tmps w hs => by
    obtain ⟨pv, v, h1, h2, h3⟩ := h φ tmps w hs
    exact ⟨pv, nx, H, φ, v, w, h1, h2, hs, h3⟩

theorem Rep.v_inv {φ : Nat → Phys} {nx : Nat} {w : World} {S : Nat → Nat → Prop} {x v : Value} (h : Rep φ nx w S (.f (.v x)) v) : v = x := by
  cases h with | f h => cases h; rfl

theorem run_value {P : Program} {s : Sem Value} {w w' : World} {v : Value} (h : s.run P w = .ok v w') : (do pure (Next.value (← s)) : Sem Next).run P w = .ok (.value v) w' := by
  rw [Sem.run_bind, h]; rfl

section
variable {P : Program} {tab : Tab} {c : Ctx} {nx : Nat} {env : Env} {H : Heap} {K : PV → Nat → Heap → Prop} {o : Oper}

def stepMove (env : Env) (H : Heap) (nx : Nat) (K : PV → Nat → Heap → Prop) (x : Operand) : Prop := ∃ pv, ev env x = some pv ∧ K pv nx H

theorem does_move {x : Operand} (ho : o.op = .move x ∨ o.op = .assign x) (h : stepMove env H nx K x) : Does P o c nx env H K :=
  Does.pure fun φ tmps w hs => by
    obtain ⟨pv, h1, h2⟩ := h
    refine ⟨pv, _, ?_, h2, ev_rep hs h1⟩
    rcases ho with ho | ho <;> simp [execOp, ho]

/-- A choice by a Bool. -/
def stepPick (env : Env) (H : Heap) (nx : Nat) (K : PV → Nat → Heap → Prop) (x a b : Operand) : Prop :=
  ∃ t, ev env x = some (.f (.v (.bool t))) ∧ (t = true → ∃ pa, ev env a = some pa ∧ K pa nx H) ∧ (t = false → ∃ pb, ev env b = some pb ∧ K pb nx H)

theorem does_pick {x a b : Operand} (ho : o.op = .pick x a b) (h : stepPick env H nx K x a b) : Does P o c nx env H K :=
  Does.pure fun φ tmps w hs => by
    obtain ⟨t, h1, h4, h5⟩ := h
    have e := (ev_rep hs h1).v_inv
    cases t with
    | true => obtain ⟨pa, h2, h3⟩ := h4 rfl; exact ⟨pa, _, by simp [execOp, ho, e, asBool], h3, ev_rep hs h2⟩
    | false => obtain ⟨pb, h2, h3⟩ := h5 rfl; exact ⟨pb, _, by simp [execOp, ho, e, asBool], h3, ev_rep hs h2⟩

/-- The bits of two numbers. -/
def bitI (op : BinOp) (k : IntKind) (x y : Int) : Int :=
  let a := BitVec.ofInt k.bits x
  let b := BitVec.ofInt k.bits y
  match op with
  | .and => k.wrap (a &&& b).toNat
  | .or => k.wrap (a ||| b).toNat
  | .xor => k.wrap (a ^^^ b).toNat
  | _ => k.wrap (a &&& ~~~b).toNat

/-- Two plain values. -/
def stepBin (op : BinOp) (kd : Kd) (C : Value → Prop) : Value → Value → Prop
  | .int k a, .int k' b =>
    match op with
    | .shl => 0 ≤ b ∧ C (.int k (k.wrap (a * 2 ^ min b.toNat k.bits)))
    | .shr => 0 ≤ b ∧ C (.int k (a.fdiv (2 ^ min b.toNat k.bits)))
    | .add => k = k' ∧ C (.int k (k.wrap (a + b)))
    | .sub => k = k' ∧ C (.int k (k.wrap (a - b)))
    | .mul => k = k' ∧ C (.int k (k.wrap (a * b)))
    | .quo => k = k' ∧ b ≠ 0 ∧ C (.int k (k.wrap (a.tdiv b)))
    | .rem => k = k' ∧ b ≠ 0 ∧ C (.int k (a.tmod b))
    | .and => k = k' ∧ C (.int k (bitI .and k a b))
    | .or => k = k' ∧ C (.int k (bitI .or k a b))
    | .xor => k = k' ∧ C (.int k (bitI .xor k a b))
    | .andNot => k = k' ∧ C (.int k (bitI .andNot k a b))
    | .eql => k = k' ∧ C (.bool (decide (a = b)))
    | .neq => k = k' ∧ C (.bool (!decide (a = b)))
    | .lss => k = k' ∧ C (.bool (decide (a < b)))
    | .leq => k = k' ∧ C (.bool (decide (a ≤ b)))
    | .gtr => k = k' ∧ C (.bool (decide (b < a)))
    | .geq => k = k' ∧ C (.bool (decide (b ≤ a)))
  | .string a, .string b =>
    match op with
    | .eql => C (.bool (a.toList == b.toList))
    | .neq => C (.bool (!(a.toList == b.toList)))
    | .add => a.size + b.size < 2 ^ 62 ∧ C (.string (a ++ b))
    | _ => False
  | .bool a, .bool b =>
    match kd, op with
    | .bool, .eql => C (.bool (a == b))
    | .bool, .neq => C (.bool (!(a == b)))
    | _, _ => False
  | .pointer none, .pointer none =>
    match kd, op with
    | .ptr _, .eql => C (.bool true)
    | .ptr _, .neq => C (.bool false)
    | _, _ => False
  | .slice none _ _, .slice none _ _ =>
    match kd, op with
    | .slice _, .eql => C (.bool true)
    | .slice _, .neq => C (.bool false)
    | _, _ => False
  | _, _ => False

def noGuard : Value → Bool
  | .nilIface | .agg _ => false
  | _ => true

theorem run_eqGuard_plain {op : BinOp} {t : Nat} {x y : Operand} {a b : Value} (w : World) (h : noGuard a = true) : (eqGuard op t x y a b).run P w = .ok () w := by
  cases a <;> first | (simp [noGuard] at h; done) | (unfold eqGuard; split <;> simp)

theorem run_equalIn_nilptr {t e : Nat} {b : Option Addr} (d : Nat) (w : World) (h : P.underlying t = some (.pointer e)) : (Op.equalIn (d + 1) t (.pointer none) (.pointer b)).run P w = .ok b.isNone w := by
  simp [Op.equalIn, run_underlying h]
theorem run_equalIn_ptrnil {t e : Nat} {b : Addr} (d : Nat) (w : World) (h : P.underlying t = some (.pointer e)) : (Op.equalIn (d + 1) t (.pointer (some b)) (.pointer none)).run P w = .ok false w := by
  simp [Op.equalIn, run_underlying h]
theorem run_equalIn_nilsl {t e : Nat} {a b : Nat} {x : Option Addr} {y z : Nat} (d : Nat) (w : World) (h : P.underlying t = some (.slice e)) : (Op.equalIn (d + 1) t (.slice none a b) (.slice x y z)).run P w = .ok x.isNone w := by
  simp [Op.equalIn, run_underlying h]
theorem run_equalIn_slnil {t e : Nat} {a b : Nat} {x : Addr} {y z : Nat} (d : Nat) (w : World) (h : P.underlying t = some (.slice e)) : (Op.equalIn (d + 1) t (.slice (some x) y z) (.slice none a b)).run P w = .ok false w := by
  simp [Op.equalIn, run_underlying h]

theorem run_eql_of {t : Nat} {a b : Value} {r : Bool} (w : World) (hb : binOp .eql t a b = do pure (.bool (← Op.equal t a b))) (h : (Op.equalIn (9999 + 1) t a b).run P w = .ok r w) :
    (binOp .eql t a b).run P w = .ok (.bool r) w := by
  rw [hb]; unfold Op.equal Op.maxDepth
  rw [Sem.run_bind, h]; rfl
theorem run_neq_of {t : Nat} {a b : Value} {r : Bool} (w : World) (hb : binOp .neq t a b = do pure (.bool (!(← Op.equal t a b)))) (h : (Op.equalIn (9999 + 1) t a b).run P w = .ok r w) :
    (binOp .neq t a b).run P w = .ok (.bool (!r)) w := by
  rw [hb]; unfold Op.equal Op.maxDepth
  rw [Sem.run_bind, h]; rfl

theorem run_stepBin (ht : TabOk P tab) {op : BinOp} {t : Nat} {C : Value → Prop} {a b : Value} {kd : Kd} (hkd : kd = .other ∨ ∃ i, tab t = some i ∧ i.kd = kd) (w : World) (h : stepBin op kd C a b) :
    ∃ r, C r ∧ one r = true ∧ (binOp op t a b).run P w = .ok r w ∧ noGuard a = true := by
  unfold stepBin at h
  split at h
  · rename_i k x k' y
    cases op <;> simp only [] at h
    case shl => exact ⟨_, h.2, rfl, by simp [binOp, Op.shift, show ¬ y < 0 by omega], rfl⟩
    case shr => exact ⟨_, h.2, rfl, by simp [binOp, Op.shift, show ¬ y < 0 by omega], rfl⟩
    case quo => obtain ⟨rfl, h1, h2⟩ := h; exact ⟨_, h2, rfl, by simp [binOp, Op.intDiv, h1], rfl⟩
    case rem => obtain ⟨rfl, h1, h2⟩ := h; exact ⟨_, h2, rfl, by simp [binOp, Op.intDiv, h1], rfl⟩
    case neq => obtain ⟨rfl, h2⟩ := h; exact ⟨_, h2, rfl, by simp [binOp, Op.intCmp, bne, BEq.beq], rfl⟩
    case eql => obtain ⟨rfl, h2⟩ := h; exact ⟨_, h2, rfl, by simp [binOp, Op.intCmp, BEq.beq], rfl⟩
    all_goals
      obtain ⟨rfl, h2⟩ := h
      exact ⟨_, h2, rfl, by first | (simp [binOp, Op.intArith]; done) | (simp [binOp, Op.intBits, bitI]; done) | (simp [binOp, Op.intCmp]; done), rfl⟩
  · rename_i x y
    cases op <;> simp only [] at h
    case eql => exact ⟨_, h, rfl, by simp [binOp, Op.stringOp], rfl⟩
    case neq => exact ⟨_, h, rfl, by simp [binOp, Op.stringOp], rfl⟩
    case add =>
      refine ⟨_, h.2, rfl, ?_, rfl⟩
      have h1 := h.1
      simp only [binOp, Op.stringOp]
      rw [if_neg]
      · rfl
      · have : IntKind.i64.max = 9223372036854775807 := by decide
        rw [this]; omega
    all_goals exact h.elim
  · rename_i x y
    have hu : kd = .bool → P.underlying t = some .bool := by
      intro e; rcases hkd with hk | ⟨i, h1, h2⟩
      · rw [e] at hk; cases hk
      · have := (ht t i h1).under; rw [h2, e] at this; exact this
    cases kd <;> cases op <;> simp only [] at h <;> first | exact h.elim | skip
    · exact ⟨_, h, rfl, run_eql_bool w t x y (hu rfl), rfl⟩
    · exact ⟨_, h, rfl, run_neq_bool w t x y (hu rfl), rfl⟩
  · have hu : ∀ e, kd = .ptr e → P.underlying t = some (.pointer e) := by
      intro e he; rcases hkd with hk | ⟨i, h1, h2⟩
      · rw [he] at hk; cases hk
      · have := (ht t i h1).under; rw [h2, he] at this; exact this
    cases kd <;> cases op <;> simp only [] at h <;> first | exact h.elim | skip
    · exact ⟨_, h, rfl, run_eql_of w rfl (run_equalIn_nilptr 9999 w (hu _ rfl)), rfl⟩
    · exact ⟨_, h, rfl, run_neq_of w rfl (run_equalIn_nilptr 9999 w (hu _ rfl)), rfl⟩
  · have hu : ∀ e, kd = .slice e → P.underlying t = some (.slice e) := by
      intro e he; rcases hkd with hk | ⟨i, h1, h2⟩
      · rw [he] at hk; cases hk
      · have := (ht t i h1).under; rw [h2, he] at this; exact this
    cases kd <;> cases op <;> simp only [] at h <;> first | exact h.elim | skip
    · exact ⟨_, h, rfl, run_eql_of w rfl (run_equalIn_nilsl 9999 w (hu _ rfl)), rfl⟩
    · exact ⟨_, h, rfl, run_neq_of w rfl (run_equalIn_nilsl 9999 w (hu _ rfl)), rfl⟩
  · exact h.elim
end
end Go.Proofs.YtnajikpdnccilaaGreat.Pv

/- Drawn regions: told in the text's order, each operation on what it reads alone. -/
import Derived.Test.YtnajikpdnccilaaGreatPvX
set_option linter.unusedVariables false
set_option linter.unusedSimpArgs false
namespace Go.Proofs.YtnajikpdnccilaaGreat.Pv
open Go

def sel {α : Type} (l : List (Nat × α)) : List Nat → List (Nat × α)
  | [] => []
  | k :: t => match look l k with
    | some x => (k, x) :: sel l t
    | none => sel l t

theorem look_sel {α : Type} {l : List (Nat × α)} : ∀ {ks : List Nat} {q : Nat} {x : α}, look (sel l ks) q = some x → look l q = some x
  | [], q, x, h => by simp [sel, look] at h
  | k :: t, q, x, h => by
    simp only [sel] at h
    split at h
    · rename_i y hy
      simp only [look] at h
      split at h
      · rename_i e; subst e; cases h; exact hy
      · exact look_sel h
    · exact look_sel h

theorem look_none {α : Type} {l : List (Nat × α)} {n : Nat} : look l n = none ↔ n ∉ l.map Prod.fst := by
  induction l with
  | nil => simp [look]
  | cons p l ih =>
    obtain ⟨k, x⟩ := p
    simp only [look, List.map_cons, List.mem_cons]
    by_cases h : k = n
    · subst h; simp
    · rw [if_neg h, ih]
      constructor
      · rintro h1 (h2 | h2)
        · exact h h2.symm
        · exact h1 h2
      · intro h1 h2; exact h1 (.inr h2)

def tmpOf : Operand → List Nat
  | .tmp t => [t]
  | _ => []
def names1 : PV → List Nat
  | .ptr n _ => [n]
  | .ref n _ _ => [n]
  | .ep n _ _ => [n]
  | _ => []
def namesOf : PV → List Nat
  | .agg cs => cs.flatMap names1
  | .clo _ cs => cs.flatMap names1
  | x => names1 x
def named (env : Env) (x : Operand) : List Nat := match ev env x with | some pv => namesOf pv | none => []

def opnds : Op → List Operand
  | .move x | .assign x | .load _ x | .nilCheck x | .unOp _ _ x | .convert _ _ x | .extract x _ | .box _ x | .field _ x _ | .fieldAddr _ x _ => [x]
  | .pick x a b => [x, a, b]
  | .build _ parts => parts.toList.map (·.2)
  | .buildSlice _ _ parts => parts.toList.map (·.2)
  | .store _ x y | .binOp _ _ x y _ | .makeSlice _ x y | .indexAddr _ x y | .index _ x y => [x, y]
  | .slice _ x lo hi mx => x :: (lo.toList ++ hi.toList ++ mx.toList)
  | .makeFunc _ _ caps => caps.toList
  | .call { callee := .value f, args, argTypes := _ } => f :: args.toList
  | .call { callee := .builtin _, args, argTypes := _ } => args.toList
  | _ => []
def rds : Op → List Operand
  | .load _ x | .indexAddr _ x _ | .slice _ x _ _ _ | .convert _ _ x | .binOp _ _ x _ _ => [x]
  | .call { callee := .builtin .len, args, argTypes := _ } => args.toList
  | .call { callee := .builtin .append, args, argTypes := _ } => args.toList.drop 1
  | .call { callee := .builtin .copy, args, argTypes := _ } => args.toList.drop 1
  | _ => []
def tchs : Op → List Operand
  | .store _ x _ => [x]
  | .buildSlice _ _ parts => parts.toList.map (·.2)
  | .call { callee := .value f, args, argTypes := _ } => f :: args.toList
  | .call { callee := .builtin .append, args, argTypes := _ } => args.toList.take 1
  | .call { callee := .builtin .copy, args, argTypes := _ } => args.toList.take 1
  | _ => []

def guardSlot (ops : Array Oper) (o : Oper) : List Nat := match o.guard with | some (j, _) => ((ops[j]?).bind (·.dst)).toList | none => []
def cutE (ops : Array Oper) (o : Oper) (env : Env) : Env := sel env (guardSlot ops o ++ (opnds o.op).flatMap tmpOf)
def tchN (o : Oper) (env : Env) : List Nat := (tchs o.op).flatMap (named env)
def rdN (o : Oper) (env : Env) : List Nat := ((rds o.op).flatMap (named env)).filter fun n => !(tchN o env).contains n
def sameH (H' : Heap) : Heap → Prop
  | [] => True
  | (n, o) :: t => look H' n = some o ∧ sameH H' t

theorem sameH.get {H' : Heap} : ∀ {rd : Heap}, sameH H' rd → ∀ n o, look rd n = some o → look H' n = some o
  | [], _, n, o, h => by simp [look] at h
  | (k, x) :: t, hs, n, o, h => by
    simp only [look] at h
    split at h
    · rename_i e; subst e; cases h; exact hs.1
    · exact hs.2.get n o h

section
variable (P : Program) (tab : Tab) (ops : Array Oper) (B : List (List Nat))

def wpd : List Oper → List Cert → Env → Nat → Heap → (List Cert → Env → Nat → Heap → Prop) → Prop
  | [], acc, env, nx, H, C => C acc.reverse env nx H
  | o :: rest, acc, env, nx, H, C =>
    let run := ∃ rN tN p nx' H', stepOp P tab (cutE ops o env) nx (sel H rN ++ sel H tN) (fun a b d => a = p ∧ b = nx' ∧ d = H') o.op ∧ nx ≤ nx' ∧ sameH H' (sel H rN) ∧
      wpd rest (⟨o, some p, cutE ops o env, sel H rN, sel H tN, drops H' ((sel H rN).map Prod.fst), nx, nx', B.getD acc.length []⟩ :: acc) (putE o.dst p env) nx'
        (drops H' ((sel H rN).map Prod.fst) ++ drops H ((sel H tN).map Prod.fst)) C
    match o.guard with
    | none => run
    | some (j, want) => ∃ d v, (ops[j]?).bind (·.dst) = some d ∧ look (cutE ops o env) d = some (.f (.v v)) ∧ (vb v = some want → run) ∧
        (vb v ≠ some want → wpd rest (⟨o, some undefP, cutE ops o env, [], [], [], nx, nx, B.getD acc.length []⟩ :: acc) (dropE o.dst env) nx H C)

/-- What must come first, as the text's edges say it. -/
def befOk : Bool :=
  (List.range ops.size).all fun j => match ops[j]? with
    | some o => (o.after.toList.all fun e => !Region.binds .any e || decide (e.on < j)) &&
        ((B.getD j []).all fun i => o.after.toList.any fun e => Region.binds .any e && (i == e.on || (B.getD e.on []).contains i))
    | none => true
end

def meetB (a b : Cert) : Bool :=
  (match a.o.dst with | some k => b.o.dst == some k || (look b.eS k).isSome | none => false) || ((a.hS ++ a.hT).any fun p => b.touches p.1 || (look b.rd p.1).isSome)
def silentB (a b : Cert) : Bool :=
  (match b.pv with | some x => has (outP a.M a.M') x | none => true) && b.hT.all fun p => outP a.M a.M' p.1 && hasO (outP a.M a.M') p.2
def certB (nt N : Nat) (c : Cert) : Bool :=
  dstOk nt c.o.dst && (c.eS.all fun p => has (fun n => decide (n < c.M)) p.2 && decide (p.1 < nt)) && ((c.rd ++ c.hS).all fun p => decide (p.1 < c.M) && hasO (fun n => decide (n < c.M)) p.2) &&
    (c.hT.all fun p => (look c.hS p.1).isSome || (decide (c.M ≤ p.1) && decide (p.1 < c.M'))) && (c.rd.all fun p => !c.touches p.1) && ((c.rd ++ c.hT).all fun p => hasO (fun _ => true) p.2 && decide (p.1 < N)) &&
    (match c.pv with | some p => has (fun _ => true) p | none => true)
def pairB (a b : Cert) (i j : Nat) : Bool :=
  i == j || ((!meetB a b || (decide (i < j) && b.bef.contains i) || (decide (j < i) && a.bef.contains j)) && (silentB a b || b.bef.contains i))
def pairsB (cs : List Cert) : Bool := cs.zipIdx.all fun a => cs.zipIdx.all fun b => pairB a.1 b.1 a.2 b.2
def planB (nt nx0 N : Nat) (env0 : Env) (H0 : Heap) (cs : List Cert) : Bool :=
  (env0.all fun p => has (fun n => decide (n < nx0)) p.2) && (H0.all fun p => decide (p.1 < nx0) && hasO (fun n => decide (n < nx0)) p.2) && cs.all (certB nt N) && pairsB cs

section
variable {P : Program} {tab : Tab} {c : Ctx} {ops : Array Oper} {B : List (List Nat)} {nx0 : Nat} {env0 : Env} {H0 : Heap}

abbrev fE (env0 : Env) (cs : List Cert) : Nat → Option PV := cs.foldl (fun f c => upE c f) (look env0)
abbrev fH (H0 : Heap) (cs : List Cert) : Nat → Option Obj := cs.foldl (fun f c => upH c f) (look H0)

/-- A certificate without what the last check tells. -/
def COk (P : Program) (tab : Tab) (ops : Array Oper) (c : Cert) : Prop :=
  let run := ∃ p, c.pv = some p ∧ stepOp P tab c.eS c.M (c.rd ++ c.hS) (fun pv' nx' H' => pv' = p ∧ nx' = c.M' ∧ ∀ n, look H' n = look (c.rd ++ c.hT) n) c.o.op
  match c.o.guard with
  | none => run
  | some (j, want) => ∃ d v, (ops[j]?).bind (·.dst) = some d ∧ look c.eS d = some (.f (.v v)) ∧ (vb v = some want → run) ∧ (vb v ≠ some want → c.pv = some undefP ∧ c.hS = [] ∧ c.hT = [])

structure Inv (P : Program) (tab : Tab) (ops : Array Oper) (B : List (List Nat)) (nx0 : Nat) (env0 : Env) (H0 : Heap) (cs : List Cert) (env : Env) (nx : Nat) (H : Heap) : Prop where
  op : ∀ (j : Nat) c, cs[j]? = some c → ops[j]? = some c.o
  ok : ∀ (j : Nat) c, cs[j]? = some c → COk P tab ops c
  mm : ∀ (j : Nat) c, cs[j]? = some c → nx0 ≤ c.M ∧ c.M ≤ c.M' ∧ c.M' ≤ nx
  envq : ∀ k, look env k = fE env0 cs k
  hq : ∀ n, look H n = fH H0 cs n
  rE : ∀ (j : Nat) c, cs[j]? = some c → ∀ q x, look c.eS q = some x → fE env0 (cs.take j) q = some x
  rH : ∀ (j : Nat) c, cs[j]? = some c → ∀ n o, look (c.rd ++ c.hS) n = some o → fH H0 (cs.take j) n = some o
  bef : ∀ (j : Nat) c, cs[j]? = some c → c.bef = B.getD j []
  nx : nx0 ≤ nx

theorem Inv.snoc {cs : List Cert} {env env' : Env} {nx nx' : Nat} {H H' : Heap} (h : Inv P tab ops B nx0 env0 H0 cs env nx H) {c : Cert} (ho : ops[cs.length]? = some c.o) (hc : COk P tab ops c) (hm : c.M = nx) (hm' : c.M' = nx') (hle : nx ≤ nx')
    (he : ∀ k, look env' k = upE c (look env) k) (hh : ∀ n, look H' n = upH c (look H) n) (hrE : ∀ q x, look c.eS q = some x → look env q = some x) (hrH : ∀ n o, look (c.rd ++ c.hS) n = some o → look H n = some o)
    (hb : c.bef = B.getD cs.length []) : Inv P tab ops B nx0 env0 H0 (cs ++ [c]) env' nx' H' := by
  have hget : ∀ (j : Nat) d, (cs ++ [c])[j]? = some d → (cs[j]? = some d ∧ j < cs.length) ∨ (j = cs.length ∧ d = c) := by
    intro j d hj
    rw [List.getElem?_append] at hj
    split at hj
    · rename_i hlt; exact .inl ⟨hj, hlt⟩
    · rename_i hge
      have hz : j - cs.length = 0 := by have := (List.getElem?_eq_some_iff.1 hj).1; simp at this; omega
      rw [hz] at hj
      simp at hj
      exact .inr ⟨by omega, hj.symm⟩
  have hE1 : ∀ k, fE env0 (cs ++ [c]) k = upE c (look env) k := by
    intro k
    simp only [fE, List.foldl_append, List.foldl_cons, List.foldl_nil, upE]
    split
    · rfl
    · exact (h.envq k).symm
  have hH1 : ∀ k, fH H0 (cs ++ [c]) k = upH c (look H) k := by
    intro k
    simp only [fH, List.foldl_append, List.foldl_cons, List.foldl_nil, upH]
    split
    · rfl
    · exact (h.hq k).symm
  refine ⟨fun j d hj => ?_, fun j d hj => ?_, fun j d hj => ?_, fun k => by rw [he, hE1], fun k => by rw [hh, hH1], fun j d hj => ?_, fun j d hj => ?_, fun j d hj => ?_, Nat.le_trans h.nx hle⟩
  · rcases hget j d hj with ⟨a, _⟩ | ⟨rfl, rfl⟩
    · exact h.op j d a
    · exact ho
  · rcases hget j d hj with ⟨a, _⟩ | ⟨rfl, rfl⟩
    · exact h.ok j d a
    · exact hc
  · rcases hget j d hj with ⟨a, _⟩ | ⟨rfl, rfl⟩
    · have := h.mm j d a; omega
    · have := h.nx; omega
  · rcases hget j d hj with ⟨a, hlt⟩ | ⟨rfl, rfl⟩
    · rw [List.take_append_of_le_length (by omega)]; exact h.rE j d a
    · intro q x hq
      rw [List.take_append_of_le_length (Nat.le_refl _), List.take_length]
      rw [← h.envq]; exact hrE q x hq
  · rcases hget j d hj with ⟨a, hlt⟩ | ⟨rfl, rfl⟩
    · rw [List.take_append_of_le_length (by omega)]; exact h.rH j d a
    · intro q x hq
      rw [List.take_append_of_le_length (Nat.le_refl _), List.take_length]
      rw [← h.hq]; exact hrH q x hq
  · rcases hget j d hj with ⟨a, _⟩ | ⟨rfl, rfl⟩
    · exact h.bef j d a
    · exact hb

section
variable {env : Env} {nx : Nat} {H : Heap} {K K' : PV → Nat → Heap → Prop}
theorem stepBin_mono {C C' : Value → Prop} (hk : ∀ r, C r → C' r) {op : BinOp} {kd : Kd} {a b : Value} (h : stepBin op kd C a b) : stepBin op kd C' a b := by
  unfold stepBin at h ⊢
  split at h
  · cases op <;> simp only [] at h ⊢ <;> first | exact ⟨h.1, hk _ h.2⟩ | exact ⟨h.1, h.2.1, hk _ h.2.2⟩
  · cases op <;> simp only [] at h ⊢ <;> first | exact h.elim | exact hk _ h | exact ⟨h.1, hk _ h.2⟩
  · cases kd <;> cases op <;> simp only [] at h ⊢ <;> first | exact h.elim | exact hk _ h
  · cases kd <;> cases op <;> simp only [] at h ⊢ <;> first | exact h.elim | exact hk _ h
  · cases kd <;> cases op <;> simp only [] at h ⊢ <;> first | exact h.elim | exact hk _ h
  · exact h.elim
theorem stepUn_mono {C C' : Value → Prop} (hk : ∀ r, C r → C' r) {op : UnOp} {a : Value} (h : stepUn op C a) : stepUn op C' a := by
  unfold stepUn at h ⊢
  split at h <;> first | exact h.elim | (cases op <;> simp only [] at h ⊢ <;> first | exact h.elim | exact hk _ h)
theorem buildP_mono {C C' : List PV → Prop} (hk : ∀ r, C r → C' r) {fs : List (Nat × Nat)} : ∀ {parts : List (Nat × Operand)} {cs : List PV}, buildP tab env fs C parts cs → buildP tab env fs C' parts cs
  | [], cs, ⟨ds, hl, h⟩ => ⟨ds, hl, hk _ h⟩
  | (q, x) :: r, cs, ⟨off, ft, it, pv, h1, h2, h3, h4, h5, h6, h⟩ => ⟨off, ft, it, pv, h1, h2, h3, h4, h5, h6, buildP_mono hk h⟩

theorem stepOp_mono {op : Op} (hk : ∀ a b d, K a b d → K' a b d) (h : stepOp P tab env nx H K op) : stepOp P tab env nx H K' op := by
  unfold stepOp at h ⊢
  split at h
  case h_1 => obtain ⟨pv, h1, h2⟩ := h; exact ⟨pv, h1, hk _ _ _ h2⟩
  case h_2 => obtain ⟨pv, h1, h2⟩ := h; exact ⟨pv, h1, hk _ _ _ h2⟩
  case h_3 =>
    obtain ⟨t, h1, h2, h3⟩ := h
    exact ⟨t, h1, fun e => (h2 e).imp fun _ h => ⟨h.1, hk _ _ _ h.2⟩, fun e => (h3 e).imp fun _ h => ⟨h.1, hk _ _ _ h.2⟩⟩
  case h_4 => obtain ⟨i, h1, h2⟩ := h; exact ⟨i, h1, hk _ _ _ h2⟩
  case h_5 => obtain ⟨pv, h1, h2, h3⟩ := h; exact ⟨pv, h1, h2, hk _ _ _ h3⟩
  case h_6 =>
    rcases h with ⟨i, fs, h1, h2, h3, h4⟩ | ⟨i, n, e, ie, h1, h2, h3, h4⟩
    · exact .inl ⟨i, fs, h1, h2, h3, buildP_mono (fun _ h => hk _ _ _ h) h4⟩
    · exact .inr ⟨i, n, e, ie, h1, h2, h3, buildP_mono (fun _ h => hk _ _ _ h) h4⟩
  case h_7 => obtain ⟨i, e, ie, ps, ys, H', h1, h2, h3, h4, h5, h6, h7, h8, h9, h10⟩ := h; exact ⟨i, e, ie, ps, ys, H', h1, h2, h3, h4, h5, h6, h7, h8, h9, hk _ _ _ h10⟩
  case h_8 =>
    obtain ⟨i, h1, h2, h⟩ := h
    refine ⟨i, h1, h2, ?_⟩
    rcases h with ⟨n, off, cs, g1, g2, g3, g4⟩ | ⟨y, g1, g2, g3, g4, g5⟩ | ⟨n, j, off, wr, sz, l, y, g1, g2, g3, g4, g5⟩
    · exact .inl ⟨n, off, cs, g1, g2, g3, hk _ _ _ g4⟩
    · exact .inr (.inl ⟨y, g1, g2, g3, g4, hk _ _ _ g5⟩)
    · exact .inr (.inr ⟨n, j, off, wr, sz, l, y, g1, g2, g3, g4, hk _ _ _ g5⟩)
  case h_9 =>
    obtain ⟨i, pv, h1, h2, h3, h4, h⟩ := h
    refine ⟨i, pv, h1, h2, h3, h4, ?_⟩
    rcases h with ⟨n, off, cs, g1, g2, g3, g4⟩ | ⟨n, j, off, sz, l, z, fs, g1, g2, g3, g4, g5, g6, g7, g8⟩
    · exact .inl ⟨n, off, cs, g1, g2, g3, hk _ _ _ g4⟩
    · exact .inr ⟨n, j, off, sz, l, z, fs, g1, g2, g3, g4, g5, g6, g7, hk _ _ _ g8⟩
  case h_10 => obtain ⟨pv, h1, h2, h3⟩ := h; exact ⟨pv, h1, h2, hk _ _ _ h3⟩
  case h_11 =>
    rcases h with ⟨a, b, h1, h2, h⟩ | ⟨i, pv, h1, h2, h3, h4, h⟩ | ⟨fs, cs, ds, r, h1, h2, h3, h4, h5, h6, h⟩
    · exact .inl ⟨a, b, h1, h2, stepBin_mono (fun _ h => hk _ _ _ h) h⟩
    · refine .inr (.inl ⟨i, pv, h1, h2, h3, h4, ?_⟩)
      rcases h with ⟨e, h⟩ | ⟨e, h⟩
      · exact .inl ⟨e, fun b hb => hk _ _ _ (h b hb)⟩
      · exact .inr ⟨e, fun b hb => hk _ _ _ (h b hb)⟩
    · refine .inr (.inr ⟨fs, cs, ds, r, h1, h2, h3, h4, h5, h6, ?_⟩)
      rcases h with ⟨e, h⟩ | ⟨e, h⟩
      · exact .inl ⟨e, hk _ _ _ h⟩
      · exact .inr ⟨e, hk _ _ _ h⟩
  case h_12 => obtain ⟨v, h1, h2⟩ := h; exact ⟨v, h1, stepUn_mono (fun _ h => hk _ _ _ h) h2⟩
  case h_13 =>
    rcases h with ⟨is, it, h1, h2, h⟩ | ⟨is, it, h1, h2, h⟩
    · refine .inl ⟨is, it, h1, h2, ?_⟩
      rcases h with ⟨k, k', a, g1, g2, g3, g4⟩ | ⟨a, g1, g2, g3, g4⟩
      · exact .inl ⟨k, k', a, g1, g2, g3, hk _ _ _ g4⟩
      · exact .inr ⟨a, g1, g2, g3, hk _ _ _ g4⟩
    · refine .inr ⟨is, it, h1, h2, ?_⟩
      rcases h with ⟨e, ie, ns, g1, g2, g3, g4, g5, g6⟩ | ⟨e, ie, a, g1, g2, g3, g4, g5, g6⟩ | ⟨e, ie, n, lo, hi, wr, l, g0, g1, g2, g3, g4, g5, g6, g7⟩
      · exact .inl ⟨e, ie, ns, g1, g2, g3, g4, g5, hk _ _ _ g6⟩
      · exact .inr (.inl ⟨e, ie, a, g1, g2, g3, g4, g5, hk _ _ _ g6⟩)
      · exact .inr (.inr ⟨e, ie, n, lo, hi, wr, l, g0, g1, g2, g3, g4, g5, g6, hk _ _ _ g7⟩)
  case h_14 => obtain ⟨h0, xs, h1, h2⟩ := h; exact ⟨h0, xs, h1, hk _ _ _ h2⟩
  case h_15 => obtain ⟨h0, i, e, ie, k, k2, q, r, h1, h2, h3, h4, h5, h6, h7, h8, h9, h10, h11⟩ := h; exact ⟨h0, i, e, ie, k, k2, q, r, h1, h2, h3, h4, h5, h6, h7, h8, h9, h10, hk _ _ _ h11⟩
  case h_16 =>
    obtain ⟨i, h1, h⟩ := h
    refine ⟨i, h1, ?_⟩
    rcases h with ⟨s, a, b, g1, g2, g3, g4, g5, g6, g7, g8⟩ | ⟨e, ie, cl, l, a, b, g1, g2, g3, g4, g5, g6, g7, g8, g9, g10⟩ | ⟨e, ie, n, lo0, hi0, wr, l, a, b, g1, g2, g3, g4, g5, g6, g7, g8, g9, g10⟩ | ⟨e, ie, g1, g2, g3, g4, g5, g6, g7, g8⟩
    · exact .inl ⟨s, a, b, g1, g2, g3, g4, g5, g6, g7, hk _ _ _ g8⟩
    · exact .inr (.inl ⟨e, ie, cl, l, a, b, g1, g2, g3, g4, g5, g6, g7, g8, g9, hk _ _ _ g10⟩)
    · exact .inr (.inr (.inl ⟨e, ie, n, lo0, hi0, wr, l, a, b, g1, g2, g3, g4, g5, g6, g7, g8, g9, hk _ _ _ g10⟩))
    · exact .inr (.inr (.inr ⟨e, ie, g1, g2, g3, g4, g5, g6, g7, hk _ _ _ g8⟩))
  case h_17 =>
    obtain ⟨i, fs, off, ft, it, h1, h2, h3, h4, h5, h6, h⟩ := h
    refine ⟨i, fs, off, ft, it, h1, h2, h3, h4, h5, h6, ?_⟩
    rcases h with ⟨n, o1, g1, g2⟩ | ⟨cs, g1, g2, g3, g4⟩ | ⟨n, j, o1, g1, g2⟩
    · exact .inl ⟨n, o1, g1, hk _ _ _ g2⟩
    · exact .inr (.inl ⟨cs, g1, g2, g3, hk _ _ _ g4⟩)
    · exact .inr (.inr ⟨n, j, o1, g1, hk _ _ _ g2⟩)
  case h_18 =>
    obtain ⟨i, fs, off, ft, it, h1, h2, h3, h4, h5, h⟩ := h
    refine ⟨i, fs, off, ft, it, h1, h2, h3, h4, h5, ?_⟩
    rcases h with ⟨cs, g1, g2, g3⟩ | ⟨cs, g1, g2, g3⟩
    · exact .inl ⟨cs, g1, g2, hk _ _ _ g3⟩
    · exact .inr ⟨cs, g1, g2, hk _ _ _ g3⟩
  case h_19 =>
    obtain ⟨i, e, ie, k, q, h1, h2, h3, h4, h⟩ := h
    refine ⟨i, e, ie, k, q, h1, h2, h3, h4, ?_⟩
    rcases h with ⟨cl, l, y, g1, g2, g3, g4⟩ | ⟨n, lo, hi, wr, l, g1, g2, g3, g4, g5⟩ | ⟨n, off, m, g1, g2, g3, g4⟩ | ⟨cs, m, g1, g2, g3, g4, g5, g6, g7, g8⟩
    · exact .inl ⟨cl, l, y, g1, g2, g3, hk _ _ _ g4⟩
    · exact .inr (.inl ⟨n, lo, hi, wr, l, g1, g2, g3, g4, hk _ _ _ g5⟩)
    · exact .inr (.inr (.inl ⟨n, off, m, g1, g2, g3, hk _ _ _ g4⟩))
    · exact .inr (.inr (.inr ⟨cs, m, g1, g2, g3, g4, g5, g6, g7, hk _ _ _ g8⟩))
  case h_20 => obtain ⟨i, k, q, s, b, h1, h2, h3, h4, h5, h6, h7⟩ := h; exact ⟨i, k, q, s, b, h1, h2, h3, h4, h5, h6, hk _ _ _ h7⟩
  case h_21 => obtain ⟨xs, d, h1, h2, h3⟩ := h; exact ⟨xs, d, h1, h2, hk _ _ _ h3⟩
  case h_22 => obtain ⟨h0, h1⟩ := h; exact ⟨h0, fun r => hk _ _ _ (h1 r)⟩
  case h_23 => obtain ⟨h0, kt, et, r, n, es, a, h1, h2, h3, h4, h5, h6, h7⟩ := h; exact ⟨h0, kt, et, r, n, es, a, h1, h2, h3, h4, h5, h6, hk _ _ _ h7⟩
  case h_24 => obtain ⟨kt, et, r, n, es, a, b, h1, h2, h3, h4, h5, h6, h7, h8⟩ := h; exact ⟨kt, et, r, n, es, a, b, h1, h2, h3, h4, h5, h6, h7, hk _ _ _ h8⟩
  case h_25 =>
    obtain ⟨g, caps, ps, ns, os, h1, h2, h3, h4, h5, h6, h7⟩ := h
    exact ⟨g, caps, ps, ns, os, h1, h2, h3, h4, h5, h6, h7.mono fun r k' Hr hq => ⟨hq.1, hk _ _ _ hq.2⟩⟩
  case h_26 =>
    split at h
    · obtain ⟨i, h1, h⟩ := h
      refine ⟨i, h1, ?_⟩
      rcases h with ⟨e, sz, l, g1, g2, g3⟩ | ⟨s, g1, g2, g3⟩ | ⟨n, e, g1, g2⟩
      · exact .inl ⟨e, sz, l, g1, g2, hk _ _ _ g3⟩
      · exact .inr (.inl ⟨s, g1, g2, hk _ _ _ g3⟩)
      · exact .inr (.inr ⟨n, e, g1, hk _ _ _ g2⟩)
    · obtain ⟨i, e, ie, xs, h1, h2, h3, h4, h5, h6, h⟩ := h
      refine ⟨i, e, ie, xs, h1, h2, h3, h4, h5, h6, ?_⟩
      rcases h with ⟨n, lo, wr, l, g1, g2, g3, g4⟩ | ⟨g1, g2, g3⟩ | ⟨l, g1, g2, g3, g4⟩ | ⟨l, g1, g2, g3⟩
      · exact .inl ⟨n, lo, wr, l, g1, g2, g3, hk _ _ _ g4⟩
      · exact .inr (.inl ⟨g1, g2, hk _ _ _ g3⟩)
      · exact .inr (.inr (.inl ⟨l, g1, g2, g3, hk _ _ _ g4⟩))
      · exact .inr (.inr (.inr ⟨l, g1, g2, hk _ _ _ g3⟩))
    · obtain ⟨i, e, ie, xs, n, lo, l, h1, h2, h3, h4, h5, h6, h7, h8⟩ := h
      exact ⟨i, e, ie, xs, n, lo, l, h1, h2, h3, h4, h5, h6, h7, hk _ _ _ h8⟩
    · obtain ⟨k, p, qs, ns, h1, h2, h⟩ := h
      refine ⟨k, p, qs, ns, h1, h2, ?_⟩
      rcases h with ⟨e, h⟩ | ⟨e, h⟩
      · exact .inl ⟨e, hk _ _ _ h⟩
      · exact .inr ⟨e, hk _ _ _ h⟩
    · obtain ⟨k, p, qs, ns, h1, h2, h⟩ := h
      refine ⟨k, p, qs, ns, h1, h2, ?_⟩
      rcases h with ⟨e, h⟩ | ⟨e, h⟩
      · exact .inl ⟨e, hk _ _ _ h⟩
      · exact .inr ⟨e, hk _ _ _ h⟩
    · exact h.elim
  case h_27 => exact h.elim
end

theorem look_putE {d : Option Nat} {p : PV} {env : Env} {k : Nat} : look (putE d p env) k = if d = some k then some p else look env k := by
  cases d with
  | none => simp [putE]
  | some d => simp only [putE, look, Option.some.injEq]
theorem look_dropE {d : Option Nat} {env : Env} {k : Nat} : look (dropE d env) k = if d = some k then some undefP else look env k := look_putE

theorem wpd_ok {C : List Cert → Env → Nat → Heap → Prop} : ∀ (rest : List Oper) (acc : List Cert) (env : Env) (nx : Nat) (H : Heap), wpd P tab ops B rest acc env nx H C → ops.toList = acc.reverse.map (·.o) ++ rest →
    Inv P tab ops B nx0 env0 H0 acc.reverse env nx H → ∃ cs env' N H', Inv P tab ops B nx0 env0 H0 cs env' N H' ∧ cs.length = ops.size ∧ C cs env' N H'
  | [], acc, env, nx, H, h, ho, hi => ⟨acc.reverse, env, nx, H, hi, by have := congrArg List.length ho; simpa using this.symm, h⟩
  | o :: rest, acc, env, nx, H, h, ho, hi => by
    have hop : ops[acc.reverse.length]? = some o := by
      rw [← Array.getElem?_toList, ho, List.getElem?_append_right (by simp)]
      simp
    have hE : ∀ q x, look (cutE ops o env) q = some x → look env q = some x := fun q x hq => look_sel hq
    have hlen : acc.reverse.length = acc.length := by simp
    have run : ∀ {rN tN p nx' H'}, (∀ d b, o.guard = some (d, b) → ∃ t v, (ops[d]?).bind (·.dst) = some t ∧ look (cutE ops o env) t = some (.f (.v v)) ∧ vb v = some b) →
        stepOp P tab (cutE ops o env) nx (sel H rN ++ sel H tN) (fun a b d => a = p ∧ b = nx' ∧ d = H') o.op → nx ≤ nx' → sameH H' (sel H rN) →
        wpd P tab ops B rest (⟨o, some p, cutE ops o env, sel H rN, sel H tN, drops H' ((sel H rN).map Prod.fst), nx, nx', B.getD acc.length []⟩ :: acc) (putE o.dst p env) nx'
          (drops H' ((sel H rN).map Prod.fst) ++ drops H ((sel H tN).map Prod.fst)) C → ∃ cs env' N H', Inv P tab ops B nx0 env0 H0 cs env' N H' ∧ cs.length = ops.size ∧ C cs env' N H' := by
      intro rN tN p nx' H' hg hst hle hsame hr
      refine wpd_ok rest _ _ _ _ hr (by rw [ho]; simp) ?_
      rw [List.reverse_cons]
      refine hi.snoc hop ?_ rfl rfl hle (fun k => by rw [look_putE]; rfl) (fun n => ?_) hE (fun n ob hn => ?_) (by rw [hlen])
      · have hrun : ∃ q, some p = some q ∧ stepOp P tab (cutE ops o env) nx (sel H rN ++ sel H tN) (fun pv' nx'' H'' => pv' = q ∧ nx'' = nx' ∧
            ∀ n, look H'' n = look (sel H rN ++ drops H' ((sel H rN).map Prod.fst)) n) o.op := by
          refine ⟨p, rfl, stepOp_mono (fun a b d hd => ?_) hst⟩
          obtain ⟨rfl, rfl, rfl⟩ := hd
          refine ⟨rfl, rfl, fun n => ?_⟩
          rw [look_append]
          cases hq : look (sel H rN) n with
          | some ob => simpa [hq] using hsame.get n ob hq
          | none =>
            simp only [look_drops]
            rw [if_neg (look_none.1 hq)]; rfl
        unfold COk
        split
        · exact hrun
        · rename_i j want hgu
          obtain ⟨t, v, t1, t2, t3⟩ := hg j want hgu
          exact ⟨t, v, t1, t2, fun _ => hrun, fun hne => absurd t3 hne⟩
      · rw [look_append, look_drops, look_drops]
        simp only [upH, Cert.touches, look_drops]
        by_cases h1 : n ∈ (sel H rN).map Prod.fst
        · simp only [if_pos h1]
          cases hq : look (sel H tN) n with
          | some ob =>
            have : n ∈ (sel H tN).map Prod.fst := Classical.byContradiction fun hn => by rw [look_none.2 hn] at hq; cases hq
            simp [this]
          | none => simp [look_none.1 hq]
        · simp only [if_neg h1]
          cases hq : look H' n with
          | some ob => simp
          | none =>
            cases hz : look (sel H tN) n with
            | some ob =>
              have : n ∈ (sel H tN).map Prod.fst := Classical.byContradiction fun hn => by rw [look_none.2 hn] at hz; cases hz
              simp [this]
            | none => simp [look_none.1 hz]
      · rw [look_append] at hn
        cases hq : look (sel H rN) n with
        | some x => rw [hq] at hn; simp at hn; subst hn; exact look_sel hq
        | none => rw [hq] at hn; simp at hn; exact look_sel hn
    simp only [wpd] at h
    split at h
    · rename_i hgu
      obtain ⟨rN, tN, p, nx', H', h1, h2, h3, h4⟩ := h
      exact run (fun d b e => by rw [hgu] at e; cases e) h1 h2 h3 h4
    · rename_i j want hgu
      obtain ⟨d, b, g1, g2, g3, g4⟩ := h
      by_cases hb : vb b = some want
      · obtain ⟨rN, tN, p, nx', H', h1, h2, h3, h4⟩ := g3 hb
        exact run (fun d' b' e => by rw [hgu] at e; cases e; exact ⟨d, b, g1, g2, hb⟩) h1 h2 h3 h4
      · have hr := g4 hb
        refine wpd_ok rest _ _ _ _ hr (by rw [ho]; simp) ?_
        rw [List.reverse_cons]
        refine hi.snoc hop ?_ rfl rfl (Nat.le_refl _) (fun k => by rw [look_dropE]; rfl) (fun n => by simp [upH, Cert.touches, look]) hE (fun n ob hn => by simp [look] at hn) (by rw [hlen])
        unfold COk
        simp only [hgu]
        exact ⟨d, b, g1, g2, fun e => absurd e hb, fun _ => by simp⟩

theorem look_all {α : Type} {l : List (Nat × α)} {p : Nat × α → Bool} (h : l.all p = true) {n : Nat} {x : α} (hx : look l n = some x) : p (n, x) = true := List.all_eq_true.1 h _ (look_mem hx)

theorem W_drawn (ht : TabOk P tab) (hm : P.follows .mixedOrders = true) {id nt : Nat} {Q : Post} {env : Env} {nx : Nat} {H : Heap} (hnt : c.nt = nt) (B : List (List Nat)) (hB : befOk ops B = true)
    (h : wpd P tab ops B ops.toList [] env nx H (fun cs env' N H' => planB nt nx N env H cs = true ∧ Q .normal env' N H')) : W P c (.region id ops true) env nx H Q := by
  intro φ tmps w hs
  subst hnt
  obtain ⟨cs, env', N, H', hi, hl, hp, hQ⟩ := wpd_ok (nx0 := nx) (env0 := env) (H0 := H) ops.toList [] env nx H h (by simp)
    ⟨fun j c h => by simp at h, fun j c h => by simp at h, fun j c h => by simp at h, fun k => rfl, fun k => rfl, fun j c h => by simp at h, fun j c h => by simp at h, fun j c h => by simp at h, Nat.le_refl _⟩
  simp only [planB, Bool.and_eq_true] at hp
  obtain ⟨⟨⟨p1, p2⟩, p3⟩, p4⟩ := hp
  have hcert : ∀ (j : Nat) d, cs[j]? = some d → certB c.nt N d = true := fun j d hj => List.all_eq_true.1 p3 d (List.mem_of_getElem? hj)
  have hpair : ∀ (i j : Nat) a b, cs[i]? = some a → cs[j]? = some b → pairB a b i j = true := by
    intro i j a b ha hb
    have h1 := List.all_eq_true.1 p4 (a, i) (List.mem_of_getElem? (i := i) (by rw [List.getElem?_zipIdx, ha]; simp))
    exact List.all_eq_true.1 h1 (b, j) (List.mem_of_getElem? (i := j) (by rw [List.getElem?_zipIdx, hb]; simp))
  have hbef : ∀ (j : Nat) o, ops[j]? = some o → (∀ e ∈ o.after, Region.binds .any e = true → e.on < j) ∧ ∀ i ∈ B.getD j [], ∃ e ∈ o.after, Region.binds .any e = true ∧ (i = e.on ∨ i ∈ B.getD e.on []) := by
    intro j o ho
    have hlt : j < ops.size := (Array.getElem?_eq_some_iff.1 ho).1
    have h1 := List.all_eq_true.1 hB j (by simp [hlt])
    rw [ho] at h1
    simp only [Bool.and_eq_true, List.all_eq_true, List.any_eq_true] at h1
    refine ⟨fun e he hb => ?_, fun i hi => ?_⟩
    · have := h1.1 e (by simpa using he)
      simpa [hb] using this
    · obtain ⟨e, e1, e2⟩ := h1.2 i hi
      simp only [Bool.and_eq_true, Bool.or_eq_true, beq_iff_eq, List.contains_iff_mem] at e2
      exact ⟨e, by simpa using e1, e2.1, e2.2⟩
  have pl : Plan P tab c.nt c.k nx N ops env H cs := {
    len := hl
    op := hi.op
    ok := fun j d hj => by
      have hk := hi.ok j d hj
      have hb := hcert j d hj
      simp only [certB, Bool.and_eq_true] at hb
      refine ⟨hb.1.1.1.1.1.1, (hi.mm j d hj).2.1, ?_⟩
      have hrun : (∃ p, d.pv = some p ∧ stepOp P tab d.eS d.M (d.rd ++ d.hS) (fun pv' nx' H' => pv' = p ∧ nx' = d.M' ∧ ∀ n, look H' n = look (d.rd ++ d.hT) n) d.o.op) →
          ∃ p, d.pv = some p ∧ has (fun _ => true) p = true ∧ stepOp P tab d.eS d.M (d.rd ++ d.hS) (fun pv' nx' H' => pv' = p ∧ nx' = d.M' ∧ ∀ n, look H' n = look (d.rd ++ d.hT) n) d.o.op := by
        rintro ⟨p, q1, q2⟩
        have := hb.2
        rw [q1] at this
        exact ⟨p, q1, this, q2⟩
      unfold COk at hk
      cases hg : d.o.guard with
      | none => rw [hg] at hk; exact hrun hk
      | some q =>
        obtain ⟨jj, want⟩ := q
        rw [hg] at hk
        obtain ⟨t, b, q1, q2, q3, q4⟩ := hk
        exact ⟨t, b, q1, q2, fun e => hrun (q3 e), q4⟩
    names := fun j d hj => ⟨(hi.mm j d hj).1, (hi.mm j d hj).2.2⟩
    k := hs.keep.1
    nx := hi.nx
    envB := fun q x hq => look_all p1 hq
    heapB := fun n o hn => by have := look_all p2 hn; simpa using this
    readE := fun j d hj q x hq => by
      have hb := hcert j d hj
      simp only [certB, Bool.and_eq_true] at hb
      have := look_all hb.1.1.1.1.1.2 hq
      simp only [Bool.and_eq_true, decide_eq_true_eq] at this
      exact ⟨hi.rE j d hj q x hq, this.1, this.2⟩
    readH := fun j d hj n o hn => by
      have hb := hcert j d hj
      simp only [certB, Bool.and_eq_true] at hb
      have := look_all hb.1.1.1.1.2 hn
      simp only [Bool.and_eq_true, decide_eq_true_eq] at this
      exact ⟨hi.rH j d hj n o hn, this.1, this.2⟩
    fresh := fun j d hj n o hn => by
      have hb := hcert j d hj
      simp only [certB, Bool.and_eq_true] at hb
      have := look_all hb.1.1.1.2 hn
      simpa using this
    apart := fun j d hj n o hn => by
      have hb := hcert j d hj
      simp only [certB, Bool.and_eq_true] at hb
      have := look_all hb.1.1.2 hn
      simpa using this
    okT := fun j d hj n o hn => by
      have hb := hcert j d hj
      simp only [certB, Bool.and_eq_true] at hb
      have := look_all hb.1.2 hn
      simpa using this
    back := fun j d hj => (hbef j d.o (hi.op j d hj)).1
    edge := fun j d hj i hib => by
      rw [hi.bef j d hj] at hib
      obtain ⟨e, e1, e2, e3⟩ := (hbef j d.o (hi.op j d hj)).2 i hib
      refine ⟨e, e1, e2, ?_⟩
      rcases e3 with e3 | e3
      · exact .inl e3
      · have hlt : e.on < cs.length := by
          have := (hbef j d.o (hi.op j d hj)).1 e e1 e2
          have := (List.getElem?_eq_some_iff.1 hj).1
          omega
        exact .inr ⟨cs[e.on], by simp [hlt], by rw [hi.bef e.on _ (by simp [hlt])]; exact e3⟩
    order := fun i j a b ha hb hne hmt => by
      have := hpair i j a b ha hb
      simp only [pairB, Bool.or_eq_true, beq_iff_eq, Bool.and_eq_true, decide_eq_true_eq, List.contains_iff_mem] at this
      have hmB : meetB a b = true := by
        unfold meetB
        rcases hmt with ⟨k, k1, k2⟩ | ⟨n, n1, n2⟩
        · rw [k1]
          rcases k2 with k2 | k2
          · simp [k2]
          · simp [k2]
        · have hmem : n ∈ (a.hS ++ a.hT).map Prod.fst := by
            simp only [Cert.touches, Bool.or_eq_true] at n1
            rw [List.map_append, List.mem_append]
            rcases n1 with n1 | n1
            · exact .inl (Classical.byContradiction fun hn => by rw [look_none.2 hn] at n1; cases n1)
            · exact .inr (Classical.byContradiction fun hn => by rw [look_none.2 hn] at n1; cases n1)
          obtain ⟨p, q1, q2⟩ := List.mem_map.1 hmem
          have : ((a.hS ++ a.hT).any fun p => b.touches p.1 || (look b.rd p.1).isSome) = true := List.any_eq_true.2 ⟨p, q1, by rw [q2]; simpa using n2⟩
          rw [this]; simp
      rcases this with h1 | ⟨h1, _⟩
      · exact absurd h1 hne
      · rcases h1 with (h1 | h1) | h1
        · rw [hmB] at h1; cases h1
        · exact .inl h1
        · exact .inr h1
    mention := fun i j a b ha hb hne hns => by
      have := hpair i j a b ha hb
      simp only [pairB, Bool.or_eq_true, beq_iff_eq, Bool.and_eq_true, decide_eq_true_eq, List.contains_iff_mem] at this
      rcases this with h1 | ⟨_, h1⟩
      · exact absurd h1 hne
      · rcases h1 with h1 | h1
        · refine absurd ?_ hns
          simp only [silentB, Bool.and_eq_true] at h1
          refine ⟨fun x hx => by have := h1.1; rw [hx] at this; exact this, fun n o hn => by have := look_all h1.2 hn; simpa using this⟩
        · exact h1 }
  have hdst : ∀ (cs' : List Cert), (∀ d ∈ cs', dstOk c.nt d.o.dst = true) → ∀ k x, fE env cs' k = some x → k < c.nt := by
    intro cs' hd k x
    have h0 : ∀ k x, look env k = some x → k < c.nt := by
      intro k x hk
      obtain ⟨v, v1, _⟩ := hs.env k x hk
      rw [← hs.size]; exact (Array.getElem?_eq_some_iff.1 v1).1
    have gen : ∀ (cs' : List Cert) (f : Nat → Option PV), (∀ k x, f k = some x → k < c.nt) → (∀ d ∈ cs', dstOk c.nt d.o.dst = true) → ∀ k x, (cs'.foldl (fun f c => upE c f) f) k = some x → k < c.nt := by
      intro cs'
      induction cs' with
      | nil => intro f hf _ k x hk; exact hf k x hk
      | cons d t ih =>
        intro f hf hd k x hk
        refine ih _ (fun k x hk => ?_) (fun d' hd' => hd d' (List.mem_cons_of_mem _ hd')) k x hk
        simp only [upE] at hk
        split at hk
        · rename_i e
          have := hd d (by simp)
          rw [e] at this
          simpa [dstOk] using this
        · exact hf k x hk
    exact gen cs' _ h0 hd k x
  have hname : ∀ n o, fH H cs n = some o → n < N := by
    intro n o
    have gen : ∀ (cs' : List Cert) (f : Nat → Option Obj), (∀ k x, f k = some x → k < N) → (∀ d ∈ cs', certB c.nt N d = true) → ∀ k x, (cs'.foldl (fun f c => upH c f) f) k = some x → k < N := by
      intro cs'
      induction cs' with
      | nil => intro f hf _ k x hk; exact hf k x hk
      | cons d t ih =>
        intro f hf hd k x hk
        refine ih _ (fun k x hk => ?_) (fun d' hd' => hd d' (List.mem_cons_of_mem _ hd')) k x hk
        simp only [upH] at hk
        split at hk
        · have hb := hd d (by simp)
          simp only [certB, Bool.and_eq_true] at hb
          have h12 := hb.1.2
          rw [List.all_append, Bool.and_eq_true] at h12
          have := look_all h12.2 hk
          simp only [Bool.and_eq_true, decide_eq_true_eq] at this
          exact this.2
        · exact hf k x hk
    refine gen cs _ (fun k x hk => ?_) (fun d hd => List.all_eq_true.1 p3 d hd) n o
    have := look_all p2 hk
    simp only [Bool.and_eq_true, decide_eq_true_eq] at this
    exact Nat.lt_of_lt_of_le this.1 hi.nx
  refine W_draw ht hm pl (envF := env') (HF := H') (fun k x hk => ?_) (fun n o hn => ?_) hQ φ tmps w hs
  · rw [hi.envq] at hk
    refine ⟨hk, hdst cs (fun d hd => ?_) k x hk⟩
    have hb := List.all_eq_true.1 p3 d hd
    simp only [certB, Bool.and_eq_true] at hb
    exact hb.1.1.1.1.1.1
  · rw [hi.hq] at hn
    exact ⟨hn, hname n o hn⟩

/-! ### Words -/

def runD (P : Program) (tab : Tab) (ops : Array Oper) (B : List (List Nat)) (o : Oper) (rest : List Oper) (acc : List Cert) (env : Env) (nx : Nat) (H : Heap) (C : List Cert → Env → Nat → Heap → Prop) : Prop :=
  ∃ rN tN p nx' H', stepOp P tab (cutE ops o env) nx (sel H rN ++ sel H tN) (fun a b d => a = p ∧ b = nx' ∧ d = H') o.op ∧ nx ≤ nx' ∧ sameH H' (sel H rN) ∧
      wpd P tab ops B rest (⟨o, some p, cutE ops o env, sel H rN, sel H tN, drops H' ((sel H rN).map Prod.fst), nx, nx', B.getD acc.length []⟩ :: acc) (putE o.dst p env) nx'
        (drops H' ((sel H rN).map Prod.fst) ++ drops H ((sel H tN).map Prod.fst)) C

section
variable {rest : List Oper} {acc : List Cert} {env : Env} {nx : Nat} {H : Heap} {C : List Cert → Env → Nat → Heap → Prop} {dst : Option Nat} {op : Op} {t : Nat} {p : String} {a : Array Edge}

theorem d_op (h : runD P tab ops B ⟨dst, op, t, p, a, none⟩ rest acc env nx H C) : wpd P tab ops B (⟨dst, op, t, p, a, none⟩ :: rest) acc env nx H C := h

theorem d_if {j d : Nat} {want b : Bool} (hj : (ops[j]?).bind (·.dst) = some d) (hb : look (cutE ops ⟨dst, op, t, p, a, some (j, want)⟩ env) d = some (.f (.v (.bool b))))
    (h1 : b = want → runD P tab ops B ⟨dst, op, t, p, a, some (j, want)⟩ rest acc env nx H C)
    (h2 : b = (!want) → wpd P tab ops B rest (⟨⟨dst, op, t, p, a, some (j, want)⟩, some undefP, cutE ops ⟨dst, op, t, p, a, some (j, want)⟩ env, [], [], [], nx, nx, B.getD acc.length []⟩ :: acc) (dropE dst env) nx H C) :
    wpd P tab ops B (⟨dst, op, t, p, a, some (j, want)⟩ :: rest) acc env nx H C :=
  ⟨d, .bool b, hj, hb, fun e => h1 (by simpa [vb] using e), fun e => h2 (by cases b <;> cases want <;> simp_all [vb])⟩

theorem d_undef {j d : Nat} {want : Bool} (hj : (ops[j]?).bind (·.dst) = some d) (hb : look (cutE ops ⟨dst, op, t, p, a, some (j, want)⟩ env) d = some undefP)
    (h : wpd P tab ops B rest (⟨⟨dst, op, t, p, a, some (j, want)⟩, some undefP, cutE ops ⟨dst, op, t, p, a, some (j, want)⟩ env, [], [], [], nx, nx, B.getD acc.length []⟩ :: acc) (dropE dst env) nx H C) :
    wpd P tab ops B (⟨dst, op, t, p, a, some (j, want)⟩ :: rest) acc env nx H C := ⟨d, undef, hj, hb, fun e => (by cases e), fun _ => h⟩

theorem d_end (h : C acc.reverse env nx H) : wpd P tab ops B [] acc env nx H C := h
end
end
end Go.Proofs.YtnajikpdnccilaaGreat.Pv

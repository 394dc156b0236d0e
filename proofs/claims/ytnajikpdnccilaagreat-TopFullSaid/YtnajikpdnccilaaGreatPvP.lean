/- Comparisons with nil, of structs; the least and the most of several. -/
import Derived.Test.YtnajikpdnccilaaGreatPvN
import Derived.Laws.StructEq
set_option linter.unusedVariables false
set_option linter.unusedSimpArgs false
namespace Go.Proofs.YtnajikpdnccilaaGreat.Pv
open Go

section
variable {P : Program} {tab : Tab} {c : Ctx} {nx : Nat} {env : Env} {H H' : Heap} {K : PV → Nat → Heap → Prop} {o : Oper}

/-- May it be nil? -/
def nilFit (H : Heap) : Kd → PV → Bool → Prop
  | .ptr _, .ptr .., b => b = false
  | .ptr _, .ep .., b => b = false
  | .ptr _, .f (.ro _), b => b = false
  | .slice _, .f (.sl _ _ l), b => l ≠ [] → b = false
  | .slice _, .ref n lo hi, b => ∃ wr sz l, look H n = some (.buf wr sz l) ∧ (view lo hi l ≠ [] → b = false)
  | .func, .clo .., b => b = false
  | .func, .f (.v .nilFunc), b => b = true
  | _, _, _ => False

def nilGuess (H : Heap) : Kd → PV → Prop
  | .ptr _, .ptr .. | .ptr _, .ep .. | .ptr _, .f (.ro _) | .slice _, .f (.sl ..) | .func, .clo .. | .func, .f (.v .nilFunc) => True
  | .slice _, .ref n _ _ => ∃ wr sz l, look H n = some (.buf wr sz l)
  | _, _ => False

def stepNil (tab : Tab) (env : Env) (H : Heap) (nx : Nat) (K : PV → Nat → Heap → Prop) (op : BinOp) (t : Nat) (x y : Operand) : Prop :=
  ∃ i pv, tab t = some i ∧ ev env x = some pv ∧ nilGuess H i.kd pv ∧
    ((∃ e, i.kd = .ptr e ∧ y = .const (.pointer none)) ∨ (∃ e, i.kd = .slice e ∧ y = .const (.slice none 0 0)) ∨ (i.kd = .func ∧ y = .const .nilFunc)) ∧
    ((op = .eql ∧ ∀ b, nilFit H i.kd pv b → K (.f (.v (.bool b))) nx H) ∨ (op = .neq ∧ ∀ b, nilFit H i.kd pv b → K (.f (.v (.bool (!b)))) nx H))

theorem exec_cmp {op : BinOp} {t u : Nat} {x y : Operand} {tmps : Array Value} {w : World} {a b : Value} {r : Bool} (ho : o.op = .binOp op t x y u) (ha : (act tmps).eval x = a) (hb : (act tmps).eval y = b)
    (hg : (eqGuard op t x y a b).run P w = .ok () w) (he : (Op.equalIn (9999 + 1) t a b).run P w = .ok r w)
    (h1 : op = .eql → binOp .eql t a b = do pure (.bool (← Op.equal t a b))) (h2 : op = .neq → binOp .neq t a b = do pure (.bool (!(← Op.equal t a b)))) (hop : op = .eql ∨ op = .neq) :
    (execOp (act tmps).eval o).run P w = .ok (.value (.bool (if op = .eql then r else !r))) w := by
  simp only [execOp, ho, ha, hb]
  rcases hop with rfl | rfl
  · simp only [Sem.run_bind, hg, Result.andThen_ok, run_eql_of w (h1 rfl) he, Sem.run_pure]; simp
  · simp only [Sem.run_bind, hg, Result.andThen_ok, run_neq_of w (h2 rfl) he, Sem.run_pure]; simp

theorem run_equalIn_fnnil {t : Nat} {fn : Fn} {xs ys : Array Value} (d : Nat) (w : World) (h : ∃ a b c, P.underlying t = some (.func a b c)) : (Op.equalIn (d + 1) t (.func fn xs ys) .nilFunc).run P w = .ok false w := by
  obtain ⟨a, b, c, h⟩ := h
  simp [Op.equalIn, run_underlying h]
theorem run_equalIn_nilnil {t : Nat} (d : Nat) (w : World) (h : ∃ a b c, P.underlying t = some (.func a b c)) : (Op.equalIn (d + 1) t .nilFunc .nilFunc).run P w = .ok true w := by
  obtain ⟨a, b, c, h⟩ := h
  simp [Op.equalIn, run_underlying h]

theorem does_nil (ht : TabOk P tab) {op : BinOp} {t u : Nat} {x y : Operand} (ho : o.op = .binOp op t x y u) (h : stepNil tab env H nx K op t x y) : Does P o c nx env H K :=
  Does.pure fun φ tmps w hs => by
    obtain ⟨i, pv, hi, h1, hgu, hy, h⟩ := h
    have hu := (ht t i hi).under
    have hr := ev_rep hs h1
    have hop : op = .eql ∨ op = .neq := by rcases h with ⟨h, _⟩ | ⟨h, _⟩ <;> simp [h]
    have fin : ∀ r : Bool, nilFit H i.kd pv r → ∃ p, K p nx H ∧ Rep φ nx w (SS c.So φ H) p (.bool (if op = .eql then r else !r)) := by
      intro r hf
      rcases h with ⟨rfl, h⟩ | ⟨rfl, h⟩
      · exact ⟨_, h r hf, by simpa using Rep.f (.v (.bool r))⟩
      · exact ⟨_, h r hf, by simpa using Rep.f (.v (.bool (!r)))⟩
    have step : ∀ (r : Bool) (a b : Value), (act tmps).eval x = a → (act tmps).eval y = b → (∀ w, (eqGuard op t x y a b).run P w = .ok () w) → (Op.equalIn (9999 + 1) t a b).run P w = .ok r w →
        (binOp .eql t a b = do pure (.bool (← Op.equal t a b))) → (binOp .neq t a b = do pure (.bool (!(← Op.equal t a b)))) → nilFit H i.kd pv r →
        ∃ pv v, (execOp (act tmps).eval o).run P w = .ok (.value v) w ∧ K pv nx H ∧ Rep φ nx w (SS c.So φ H) pv v := by
      intro r a b ha hb hg he e1 e2 hf
      obtain ⟨p, k1, k2⟩ := fin r hf
      exact ⟨p, _, exec_cmp ho ha hb (hg w) he (fun _ => e1) (fun _ => e2) hop, k1, k2⟩
    generalize hv : (act tmps).eval x = v at hr step
    rcases hy with ⟨e, hk, rfl⟩ | ⟨e, hk, rfl⟩ | ⟨hk, rfl⟩
    · rw [hk] at hu hgu
      simp only [Under] at hu
      have hp : ∀ A : Addr, v = .pointer (some A) → ∃ pv v, (execOp (act tmps).eval o).run P w = .ok (.value v) w ∧ K pv nx H ∧ Rep φ nx w (SS c.So φ H) pv v := by
        intro A hA
        subst hA
        refine step false _ (.pointer none) rfl rfl (fun w => run_eqGuard_plain w rfl) (run_equalIn_ptrnil 9999 w hu) rfl rfl ?_
        rw [hk]
        cases pv <;> simp only [nilGuess] at hgu <;> first | rfl | exact hgu.elim | skip
        rename_i x; cases x <;> simp only [nilGuess] at hgu <;> first | rfl | exact hgu.elim
      cases hr with
      | ptr _ => exact hp _ rfl
      | ep _ _ _ => exact hp _ rfl
      | f hf => cases hf <;> simp only [nilGuess] at hgu <;> first | exact hgu.elim | exact hp _ rfl
      | _ => exact hgu.elim
    · rw [hk] at hu hgu
      simp only [Under] at hu
      have hsome : ∀ (A : Addr) y z, v = .slice (some A) y z → nilFit H (.slice e) pv false → ∃ pv v, (execOp (act tmps).eval o).run P w = .ok (.value v) w ∧ K pv nx H ∧ Rep φ nx w (SS c.So φ H) pv v := by
        intro A y z hA hf
        subst hA
        refine step false _ (.slice none 0 0) rfl rfl (fun w => run_eqGuard_plain w rfl) (run_equalIn_slnil 9999 w hu) rfl rfl ?_
        rw [hk]; exact hf
      have hnone : v = .slice none 0 0 → nilFit H (.slice e) pv true → ∃ pv v, (execOp (act tmps).eval o).run P w = .ok (.value v) w ∧ K pv nx H ∧ Rep φ nx w (SS c.So φ H) pv v := by
        intro hA hf
        subst hA
        refine step true _ (.slice none 0 0) rfl rfl (fun w => run_eqGuard_plain w rfl) (run_equalIn_nilsl 9999 w hu) rfl rfl ?_
        rw [hk]; exact hf
      cases hr with
      | f hf =>
        cases hf with
        | slnil sz cl => exact hnone rfl (by simp [nilFit])
        | slemp sz cl A => exact hsome A _ _ rfl (by simp [nilFit])
        | sl sz cl l b off cap val => exact hsome _ _ _ rfl (by simp [nilFit])
        | _ => exact hgu.elim
      | @refnil n hi hn1 hn2 hn3 hn4 =>
        obtain ⟨wr, sz, l, hl⟩ := hgu
        obtain ⟨o1, o2, o3⟩ := (hs.ok.obj _ _ hl).2
        have : l = [] := by
          have := o1.symm.trans hn3
          exact List.length_eq_zero_iff.1 this
        subst this
        refine hnone rfl ?_
        refine ⟨wr, sz, [], hl, fun hne => ?_⟩
        cases hi <;> simp [view] at hne
      | ref a1 a2 a3 a4 a5 a6 a7 =>
        obtain ⟨wr, sz, l, hl⟩ := hgu
        exact hsome _ _ _ rfl ⟨wr, sz, l, hl, fun _ => rfl⟩
      | _ => exact hgu.elim
    · rw [hk] at hu hgu
      cases hr with
      | clo fn cs vs _ _ =>
        refine step false _ .nilFunc rfl rfl (fun w => run_eqGuard_plain w rfl) (run_equalIn_fnnil 9999 w hu) rfl rfl ?_
        rw [hk]; rfl
      | f hf =>
        cases hf with
        | v =>
          cases v <;> simp only [nilGuess] at hgu <;> first | exact hgu.elim | skip
          refine step true .nilFunc .nilFunc rfl rfl (fun w => run_eqGuard_plain w rfl) (run_equalIn_nilnil 9999 w hu) rfl rfl ?_
          rw [hk]; rfl
        | _ => exact hgu.elim
      | _ => exact hgu.elim

/-! ### Structs -/

/-- What a comparison of structs asks of the program. -/
def SEq (P : Program) (t : Nat) (fs : List (Nat × Nat)) : Prop :=
  ∃ F : Array Field, P.underlying t = some (.struct F) ∧ F.toList.map (fun f => (f.offset, f.type)) = fs ∧ (F.toList.all fun f => f.name != "_") = true ∧ P.stoodInHeld t = false ∧ P.eqGuardType P.depth t = false

def eqV : Kd → FV → FV → Option Bool
  | .int k, .v (.int k1 a), .v (.int k2 b) => if k1 = k2 then some (decide (a = b)) else none
  | .bool, .v (.bool a), .v (.bool b) => some (a == b)
  | .str, .v (.string a), .v (.string b) => some (a.toList == b.toList)
  | _, _, _ => none

def eqFs (tab : Tab) (cs ds : List FV) : List (Nat × Nat) → Option Bool
  | [] => some true
  | (off, ft) :: t =>
    match tab ft with
    | some i => if i.size = 1 then match eqV i.kd (cs.getD off (.v undef)) (ds.getD off (.v undef)), eqFs tab cs ds t with
      | some a, some b => some (a && b)
      | _, _ => none else none
    | none => none

def stepEqS (P : Program) (tab : Tab) (env : Env) (H : Heap) (nx : Nat) (K : PV → Nat → Heap → Prop) (op : BinOp) (t : Nat) (x y : Operand) : Prop :=
  ∃ fs cs ds r, SEq P t fs ∧ ev env x = some (.f (.agg cs)) ∧ ev env y = some (.f (.agg ds)) ∧ cs.length = ds.length ∧ (fs.all fun p => decide (p.1 < cs.length)) = true ∧ eqFs tab cs ds fs = some r ∧
    ((op = .eql ∧ K (.f (.v (.bool r))) nx H) ∨ (op = .neq ∧ K (.f (.v (.bool (!r)))) nx H))

theorem run_eqV (ht : TabOk P tab) {t : Nat} {i : TI} (hi : tab t = some i) {x y : FV} {r : Bool} {w : World} {S : Nat → Nat → Prop} {a b : Value} (h : eqV i.kd x y = some r) (hx : RepF w S x a) (hy : RepF w S y b) (d : Nat) :
    (Op.equalIn (d + 1) t a b).run P w = .ok r w := by
  have hu := (ht t i hi).under
  unfold eqV at h
  split at h
  · rename_i k k1 p k2 q hk
    rw [hk] at hu; simp only [Under] at hu
    cases hx; cases hy
    split at h
    · rename_i e; subst e; cases h
      rw [run_equalIn_int w d t k1 k p q hu]
      congr 1
    · cases h
  · rename_i p q hk
    rw [hk] at hu; simp only [Under] at hu
    cases hx; cases hy; cases h
    exact run_equalIn_bool' w d t p q hu
  · rename_i p q hk
    rw [hk] at hu; simp only [Under] at hu
    cases hx; cases hy; cases h
    exact run_equalIn_string w d t p q hu
  · cases h

theorem run_eqFs (ht : TabOk P tab) {cs ds : List FV} {xs ys : Array Value} {w : World} {S : Nat → Nat → Prop} (hx : RepF w S (.agg cs) (.agg xs)) (hy : RepF w S (.agg ds) (.agg ys)) (d : Nat) :
    ∀ (F : List Field) (r : Bool), (F.all fun f => f.name != "_") = true → ((F.map fun f => (f.offset, f.type)).all fun p => decide (p.1 < cs.length) && decide (p.1 < ds.length)) = true →
      eqFs tab cs ds (F.map fun f => (f.offset, f.type)) = some r → (Op.eqFields (d + 1) xs ys F).run P w = .ok r w
  | [], r, _, _, h => by simp only [List.map_nil, eqFs] at h; cases h; simp [Op.eqFields]
  | f :: F, r, hn, hl, h => by
    simp only [List.map_cons, eqFs] at h
    simp only [List.all_cons, Bool.and_eq_true, bne_iff_ne, ne_eq] at hn
    simp only [List.map_cons, List.all_cons, Bool.and_eq_true, decide_eq_true_eq] at hl
    cases hi : tab f.type with
    | none => rw [hi] at h; cases h
    | some i =>
      rw [hi] at h
      simp only at h
      split at h
      rotate_left
      · cases h
      rename_i hsz
      split at h
      rotate_left
      · cases h
      rename_i a b h1 h2
      cases h
      have ih := run_eqFs ht hx hy d F b (by simpa using hn.2) hl.2 h2
      cases hx with
      | agg _ _ x1 x2 x3 =>
        cases hy with
        | agg _ _ y1 y2 y3 =>
          have hxl : f.offset < xs.size := by rw [x1]; exact hl.1.1
          have hyl : f.offset < ys.size := by rw [y1]; exact hl.1.2
          have e1 : cs.getD f.offset (.v undef) = cs[f.offset]'hl.1.1 := by rw [List.getD_eq_getElem?_getD, List.getElem?_eq_getElem hl.1.1]; rfl
          have e2 : ds.getD f.offset (.v undef) = ds[f.offset]'hl.1.2 := by rw [List.getD_eq_getElem?_getD, List.getElem?_eq_getElem hl.1.2]; rfl
          rw [e1, e2] at h1
          have hrx := x3 f.offset _ xs[f.offset] (List.getElem?_eq_getElem hl.1.1) (by simp [hxl])
          have hry := y3 f.offset _ ys[f.offset] (List.getElem?_eq_getElem hl.1.2) (by simp [hyl])
          have hq := run_eqV ht hi h1 hrx hry d
          obtain ⟨ti, z, j1, j2, j3, j4, j5, j6⟩ := (ht f.type i hi).info
          have hagg : i.kd.agg = false := by
            unfold eqV at h1
            split at h1 <;> first | (cases h1; done) | simp_all [Kd.agg]
          have hpart : ∀ (vs : Array Value) (hlt : f.offset < vs.size), (part f.type vs f.offset).run P w = .ok vs[f.offset] w := by
            intro vs hlt
            simp only [part, Sem.run_bind, run_isAgg ht hi, Result.andThen_ok, hagg]
            simp [hlt]
          simp only [Op.eqFields, if_pos hn.1, Sem.run_bind, hpart xs hxl, hpart ys hyl, hq, Result.andThen_ok]
          cases a with
          | false => simp
          | true => simpa using ih

theorem does_eqS (ht : TabOk P tab) {op : BinOp} {t u : Nat} {x y : Operand} (ho : o.op = .binOp op t x y u) (h : stepEqS P tab env H nx K op t x y) : Does P o c nx env H K :=
  Does.pure fun φ tmps w hs => by
    obtain ⟨fs, cs, ds, r, ⟨F, f1, f2, f3, f4, f5⟩, h1, h2, hl, hlt, h3, h⟩ := h
    have hr1 := ev_rep hs h1
    have hr2 := ev_rep hs h2
    generalize hv1 : (act tmps).eval x = v1 at hr1
    generalize hv2 : (act tmps).eval y = v2 at hr2
    cases hr1 with
    | f hr1 => cases hr2 with
      | f hr2 =>
        cases hr1 with
        | agg _ xs a1 a2 a3 =>
          cases hr2 with
          | agg _ ys b1 b2 b3 =>
            have hfo : P.fieldsOf t = F := by simp [Program.fieldsOf, f1]
            have he : (Op.equalIn (9999 + 1) t (.agg xs) (.agg ys)).run P w = .ok r w := by
              rw [run_equalIn_struct (P := P) w 9999 t xs ys (by rw [hfo]; exact f1) f4, hfo]
              refine run_eqFs ht (.agg cs xs a1 a2 a3) (.agg ds ys b1 b2 b3) 9998 F.toList r f3 ?_ (by rw [f2]; exact h3)
              rw [f2]
              rw [List.all_eq_true] at hlt ⊢
              intro p hp
              have := hlt p hp
              simp only [decide_eq_true_eq] at this
              simp [this, hl ▸ this]
            have hop : op = .eql ∨ op = .neq := by rcases h with ⟨h, _⟩ | ⟨h, _⟩ <;> simp [h]
            have hx := exec_cmp ho hv1 hv2 (run_eqGuard_agg (P := P) w op t x y xs ys f5) he (fun _ => rfl) (fun _ => rfl) hop
            rcases h with ⟨rfl, h⟩ | ⟨rfl, h⟩
            · exact ⟨_, _, hx, h, by simpa using Rep.f (.v (.bool r))⟩
            · exact ⟨_, _, hx, h, by simpa using Rep.f (.v (.bool (!r)))⟩

/-! ### The least and the most -/

def intsOf : List PV → Option (List Int)
  | [] => some []
  | .f (.v (.int _ n)) :: t => (intsOf t).map (n :: ·)
  | _ :: _ => none

def stepMM (env : Env) (H : Heap) (nx : Nat) (K : PV → Nat → Heap → Prop) (b : Builtin) (xs : List Operand) : Prop :=
  ∃ k p qs ns, evs env xs = some (.f (.v (.int k p)) :: qs) ∧ intsOf qs = some ns ∧
    ((b = .max ∧ K (.f (.v (.int k (ns.foldl max p)))) nx H) ∨ (b = .min ∧ K (.f (.v (.int k (ns.foldl min p)))) nx H))

theorem run_mmf {P : Program} {nx : Nat} {b : Bool} {w : World} {φ : Nat → Phys} {S : Nat → Nat → Prop} {k : IntKind} : ∀ (qs : List PV) (ns : List Int) (us : List Value) (p : Int), intsOf qs = some ns → us.length = qs.length →
    (∀ (i : Nat) q u, qs[i]? = some q → us[i]? = some u → Rep φ nx w S q u) →
    (us.foldlM (if b then Builtin.max2 else Builtin.min2) (.int k p)).run P w = .ok (.int k (ns.foldl (if b then max else min) p)) w
  | [], ns, us, p, h, hl, _ => by
    simp only [intsOf] at h; cases h
    have : us = [] := List.length_eq_zero_iff.1 hl
    subst this; simp
  | x :: qs, ns, us, p, h, hl, hr => by
    cases us with
    | nil => simp at hl
    | cons u us =>
      unfold intsOf at h
      split at h
      · rename_i heq; cases heq
      · rename_i kk n t heq
        cases heq
        cases hq : intsOf qs with
        | none => rw [hq] at h; cases h
        | some ms =>
          rw [hq] at h
          cases h
          have e := (hr 0 _ u rfl rfl).v_inv
          subst e
          have ih := run_mmf (P := P) (b := b) (k := k) qs ms us (if b then max p n else min p n) hq (by simpa using hl) (fun i q v h1 h2 => hr (i + 1) q v (by simpa using h1) (by simpa using h2))
          have hstep : ((if b then Builtin.max2 else Builtin.min2) (.int k p) (.int kk n)).run P w = .ok (.int k (if b then max p n else min p n)) w := by
            cases b with
            | true => simp only [if_true, Builtin.max2, Sem.run_pure]; congr 2; rw [Int.max_def]; split <;> split <;> omega
            | false => simp only [Bool.false_eq_true, if_false, Builtin.min2, Sem.run_pure]; congr 2; rw [Int.min_def]; split <;> split <;> omega
          simp only [List.foldlM_cons, Sem.run_bind, hstep, Result.andThen_ok, List.foldl_cons]
          rw [ih]
          cases b <;> rfl
      · cases h

theorem does_mm {b : Builtin} {xs : List Operand} {ts : Array Nat} (ho : o.op = .call { callee := .builtin b, args := xs.toArray, argTypes := ts }) (h : stepMM env H nx K b xs) : Does P o c nx env H K :=
  Does.pure fun φ tmps w hs => by
    obtain ⟨k, p, qs, ns, h1, h2, h⟩ := h
    obtain ⟨a1, a2⟩ := evs_get hs h1
    cases xs with
    | nil => simp at a1
    | cons x xs =>
      have e0 : (act tmps).eval x = .int k p := by
        obtain ⟨y, y1, y2⟩ := a2 0 _ rfl
        simp at y1; subst y1
        exact y2.v_inv
      have hrep : ∀ (i : Nat) q u, qs[i]? = some q → (xs.map (act tmps).eval)[i]? = some u → Rep φ nx w (SS c.So φ H) q u := by
        intro i q u hq hu
        obtain ⟨y, y1, y2⟩ := a2 (i + 1) q (by simpa using hq)
        simp only [List.getElem?_cons_succ] at y1
        simp only [List.getElem?_map, y1, Option.map_some, Option.some.injEq] at hu
        rw [← hu]; exact y2
      have hlen : (xs.map (act tmps).eval).length = qs.length := by simpa using a1.symm
      rcases h with ⟨rfl, h⟩ | ⟨rfl, h⟩
      · refine ⟨_, _, ?_, h, .f (.v _)⟩
        have := run_mmf (P := P) (b := true) (k := k) qs ns _ p h2 hlen hrep
        simp only [if_true] at this
        simp only [execOp, ho, resolve, Sem.run_bind, Sem.run_pure, Result.andThen_ok, invoke, builtin]
        simp [Builtin.max_, e0]
        first | (rw [this]; done) | (simp [this]) | skip
      · refine ⟨_, _, ?_, h, .f (.v _)⟩
        have := run_mmf (P := P) (b := false) (k := k) qs ns _ p h2 hlen hrep
        simp only [Bool.false_eq_true, if_false] at this
        simp only [execOp, ho, resolve, Sem.run_bind, Sem.run_pure, Result.andThen_ok, invoke, builtin]
        simp [Builtin.min_, e0]
        first | (rw [this]; done) | (simp [this]) | skip
end
end Go.Proofs.YtnajikpdnccilaaGreat.Pv

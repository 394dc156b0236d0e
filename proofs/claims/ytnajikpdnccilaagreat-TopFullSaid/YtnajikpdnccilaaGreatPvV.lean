/- The walk's words: one line for one step. -/
import Derived.Test.YtnajikpdnccilaaGreatPvU
set_option linter.unusedVariables false
set_option linter.unusedSimpArgs false
namespace Go.Proofs.YtnajikpdnccilaaGreat.Pv
open Go

section
variable {P : Program} {tab : Tab} {c : Ctx} {nx nt : Nat} {env : Env} {H H' : Heap} {K : PV → Nat → Heap → Prop} {C : Env → Nat → Heap → Prop} {ops : Array Oper} {rest : List Oper}

/-! ### Rows of operations -/

theorem o_op {dst : Option Nat} {op : Op} {t : Nat} {p : String} {a : Array Edge} (hd : dstOk nt dst = true)
    (h : stepOp P tab env nx H (fun pv nx' H' => wpl P tab nt ops rest (putE dst pv env) nx' H' C) op) : wpl P tab nt ops (⟨dst, op, t, p, a, none⟩ :: rest) env nx H C := ⟨hd, h⟩

theorem o_if {dst : Option Nat} {op : Op} {t : Nat} {p : String} {a : Array Edge} {j d : Nat} {want b : Bool} (hj : (ops[j]?).bind (·.dst) = some d) (hb : look env d = some (.f (.v (.bool b)))) (hd : dstOk nt dst = true)
    (h1 : b = want → wpl P tab nt ops (⟨dst, op, t, p, a, none⟩ :: rest) env nx H C) (h2 : b = !want → wpl P tab nt ops rest (dropE dst env) nx H C) :
    wpl P tab nt ops (⟨dst, op, t, p, a, some (j, want)⟩ :: rest) env nx H C :=
  ⟨d, .bool b, hj, hb, hd, fun e => (h1 (by simpa [vb] using e)).2, fun e => h2 (by cases b <;> cases want <;> simp_all [vb])⟩

/-- The guard's operation did not run itself. -/
theorem o_undef {dst : Option Nat} {op : Op} {t : Nat} {p : String} {a : Array Edge} {j d : Nat} {want : Bool} (hj : (ops[j]?).bind (·.dst) = some d) (hb : look env d = some undefP) (hd : dstOk nt dst = true) (h : wpl P tab nt ops rest (dropE dst env) nx H C) :
    wpl P tab nt ops (⟨dst, op, t, p, a, some (j, want)⟩ :: rest) env nx H C := ⟨d, undef, hj, hb, hd, fun e => (by cases e), fun _ => h⟩

theorem o_end (h : C env nx H) : wpl P tab nt ops [] env nx H C := h

/-! ### Code -/

theorem w_seq {a b : Code} {Q : Post} (h : W P c a env nx H (thenP (fun env nx H => W P c b env nx H Q) Q)) : W P c (.seq a b) env nx H Q := W_seq h
theorem w_reg (ht : TabOk P tab) {id : Nat} {Q : Post} {nt : Nat} (hnt : c.nt = nt) (h : wpl P tab nt ops ops.toList env nx H (Q .normal)) : W P c (.region id ops false) env nx H Q :=
  wpc_ok ht _ _ _ _ _ (by rw [hnt]; exact h)
theorem w_if {x : Operand} {t e : Code} {Q : Post} {b : Bool} (hb : ev env x = some (.f (.v (.bool b)))) (h1 : b = true → W P c t env nx H Q) (h2 : b = false → W P c e env nx H Q) : W P c (.cond x t e) env nx H Q :=
  fun φ tmps w hs => wp_cond_split (t := b) (ev_rep hs hb).v_inv (fun hb => h1 hb φ tmps w hs) (fun hb => h2 hb φ tmps w hs)
theorem w_block {id : Nat} {body : Code} {Q : Post} (h : W P c body env nx H (blockP id Q)) : W P c (.block id body) env nx H Q := fun φ tmps w hs => by
    refine wp_block (Code.wp_mono (fun e a w hp => ?_) (h φ tmps w hs))
    obtain ⟨x, env', nx', H', φ', rfl, h2, h3, h4⟩ := hp
    cases x with
    | normal => exact ⟨.normal, env', nx', H', φ', rfl, h2, h3, h4⟩
    | ret => exact ⟨.ret, env', nx', H', φ', rfl, h2, h3, h4⟩
    | exit i =>
      show (if i = id then PostOf c Q .normal a w else PostOf c Q (.exit i) a w)
      simp only [blockP] at h4
      by_cases hi : i = id
      · rw [if_pos hi] at h4 ⊢; exact ⟨.normal, env', nx', H', φ', rfl, h2, h3, h4⟩
      · rw [if_neg hi] at h4 ⊢; exact ⟨.exit i, env', nx', H', φ', rfl, h2, h3, h4⟩
theorem w_skip {Q : Post} (h : Q .normal env nx H) : W P c .skip env nx H Q := fun φ tmps w hs => wp_skip ⟨.normal, env, nx, H, φ, rfl, rfl, hs, h⟩
theorem w_exit {id : Nat} {Q : Post} (h : Q (.exit id) env nx H) : W P c (.exit id) env nx H Q := fun φ tmps w hs => wp_exit ⟨.exit id, env, nx, H, φ, rfl, rfl, hs, h⟩
theorem w_ret {Q : Post} (h : Q .ret env nx H) : W P c .ret env nx H Q := fun φ tmps w hs => wp_ret ⟨.ret, env, nx, H, φ, rfl, rfl, hs, h⟩

theorem w_join {α : Type} {a b : Code} {Q : Post} (I : α → Prop) (E : α → Env) (N : α → Nat) (G : α → Heap)
    (h1 : W P c a env nx H (thenP (fun env' _ H' => ∃ y, I y ∧ Emb c.k (E y) (N y) (G y) env' H') Q)) (h2 : ∀ y, I y → W P c b (E y) (N y) (G y) Q) : W P c (.seq a b) env nx H Q :=
  W_seq (h1.mono fun x env nx H hx => by
    cases x with
    | normal => obtain ⟨y, hy, he⟩ := hx; exact (h2 y hy).emb he
    | exit i => exact hx
    | ret => exact hx)

theorem w_loop {α : Type} {body : Code} {Q : Post} (I : α → Prop) (E : α → Env) (N : α → Nat) (G : α → Heap) (μ : α → Nat) (x0 : α) (hI : I x0) (h0 : Emb c.k (E x0) (N x0) (G x0) env H)
    (round : ∀ x, I x → W P c body (E x) (N x) (G x) (thenP (fun env' _ H' => ∃ y, I y ∧ μ y < μ x ∧ Emb c.k (E y) (N y) (G y) env' H') Q)) : W P c (.loop body) env nx H Q :=
  W_loop (α := { x // I x }) (fun x => E x.1) (fun x => N x.1) (fun x => G x.1) (fun x => μ x.1) ⟨x0, hI⟩ h0 fun x => (round x.1 x.2).mono fun e env nx H h => by
    cases e with
    | normal => obtain ⟨y, h1, h2, h3⟩ := h; exact ⟨⟨y, h1⟩, h2, h3⟩
    | exit i => exact h
    | ret => exact h

section
variable {F : Env → Nat → Heap → Prop} {Q : Post} {i j : Nat}
theorem q_then (h : F env nx H) : thenP F Q .normal env nx H := h
theorem q_then_exit (h : Q (.exit i) env nx H) : thenP F Q (.exit i) env nx H := h
theorem q_then_ret (h : Q .ret env nx H) : thenP F Q .ret env nx H := h
theorem q_block (h : Q .normal env nx H) : blockP i Q .normal env nx H := h
theorem q_block_exit (h : Q .normal env nx H) : blockP i Q (.exit i) env nx H := by simpa [blockP] using h
theorem q_block_pass (hn : j ≠ i) (h : Q (.exit j) env nx H) : blockP i Q (.exit j) env nx H := by simpa [blockP, hn] using h
theorem q_block_ret (h : Q .ret env nx H) : blockP i Q .ret env nx H := h
end

/-! ### Slots told otherwise -/

theorem W_frz {code : Code} {Q : Post} {s : Nat} {pv : PV} {y : FV} (he : look env s = some pv) (hf : frz H pv = some (y, H')) (h : W P c code ((s, .f y) :: env) nx H' Q) : W P c code env nx H Q := by
  intro φ tmps w hs
  obtain ⟨v, k1, k2⟩ := hs.env s pv he
  obtain ⟨a, b, d⟩ := frz_ok hs hf
  refine h φ tmps w ⟨a.ok, fun m q hm => ?_, a.ext, a.keep, a.size⟩
  by_cases e : s = m
  · subst e
    rw [look_cons_same] at hm; cases hm
    exact ⟨v, k1, .f (d v k2)⟩
  · rw [look_cons_ne _ _ e] at hm
    exact a.env m q hm

/-- What every value so told may be told as, too. -/

theorem le_nil (sz : Nat) (cl : Bool) : PV.le (.f (.v (.slice none 0 0))) (.f (.sl sz cl [])) := by
  intro φ nx w S v h
  have := h.v_inv; subst this
  exact .f (.slnil sz cl)
theorem le_clip {sz : Nat} {cl : Bool} {l : List FV} : PV.le (.f (.sl sz true l)) (.f (.sl sz cl l)) := by
  intro φ nx w S v h
  cases h with
  | f h => cases h with
    | slnil _ _ => exact .f (.slnil sz cl)
    | slemp _ _ A => exact .f (.slemp sz cl A)
    | sl _ _ l b off cap val h1 h2 h3 h4 h5 => exact .f (.sl sz cl l b off cap val h1 (fun _ => h2 rfl) h3 h4 h5)
theorem le_loose {sz : Nat} {cl : Bool} {l : List FV} : PV.le (.f (.sl sz cl l)) (.f (.sl sz false l)) := by
  intro φ nx w S v h
  cases h with
  | f h => cases h with
    | slnil _ _ => exact .f (.slnil sz false)
    | slemp _ _ A => exact .f (.slemp sz false A)
    | sl _ _ l b off cap val h1 h2 h3 h4 h5 => exact .f (.sl sz false l b off cap val h1 (fun e => by cases e) h3 h4 h5)

theorem W_le {code : Code} {Q : Post} {s : Nat} {x y : PV} (he : look env s = some x) (hl : PV.le x y) (h : W P c code ((s, y) :: env) nx H Q) : W P c code env nx H Q := by
  intro φ tmps w hs
  refine h φ tmps w ⟨hs.ok, fun m q hm => ?_, hs.ext, hs.keep, hs.size⟩
  by_cases e : s = m
  · subst e
    rw [look_cons_same] at hm; cases hm
    obtain ⟨v, k1, k2⟩ := hs.env s x he
    exact ⟨v, k1, hl _ _ _ _ _ k2⟩
  · rw [look_cons_ne _ _ e] at hm
    exact hs.env m q hm

/-! ### A function as a whole -/

def FinP (tab : Tab) (rs : List ResultVar) (k : Nat) (R : PV → Nat → Heap → Prop) : Post := fun x env _ H' => x ≠ .exit 0 ∧ (x = .ret ∨ x = .normal) ∧ FinOk tab rs k R env H'

/-- One answer. -/
def Ret (r : PV) (k : Nat) (H : Heap) : PV → Nat → Heap → Prop := fun r' k' H' => r' = r ∧ k' = k ∧ H' = H

theorem t_fun (ht : TabOk P tab) {f : Nat} {fn : Func} {body : Code} {rs : List ResultVar} {args : List PV} {k n : Nat} {R : PV → Nat → Heap → Prop} (hf : P.funcs[f]? = some fn) (hb : fn.body = some body) (hn : (fn.name == "runtime.NumGoroutine") = false)
    (hnt : fn.ntmps = n) (hrs : fn.results.toList = rs) (ha : args.length ≤ n)
    (h : ∀ c : Ctx, c.nt = n → c.k = k → W P c body (argEnv 0 args) k H (FinP tab rs k R)) : T P f args k H R := by
  subst hnt; subst hrs
  exact T_intro ht hf hb hn ha fun c h1 h2 => h c h1 h2

theorem fin_ret {rs : List ResultVar} {k : Nat} {R : PV → Nat → Heap → Prop} (h : FinOk tab rs k R env H) : FinP tab rs k R .ret env nx H := ⟨by simp, .inl rfl, h⟩

/-- All that goes back is told without names. -/
theorem fin_plain {rs : List ResultVar} {k : Nat} {R : PV → Nat → Heap → Prop} {xs : List PV} {r : PV} (h : retL tab env H rs xs) (hp : packR xs = r) (hr : has (fun _ => false) r = true) (hR : R r k []) : FinP tab rs k R .ret env nx H := by
  refine fin_ret ⟨xs, [], k, [], h, rfl, trivial, Nat.le_refl _, ?_, ?_⟩
  · rw [hp]; exact hr
  · have : ren (tauP []) r = r := by
      have h1 : ∀ y, has1 (fun _ => false) y = true → ren1 (tauP []) y = y := by intro y hy; cases y <;> simp [has1] at hy <;> rfl
      have h1l : ∀ l : List PV, l.all (has1 fun _ => false) = true → l.map (ren1 (tauP [])) = l := by
        intro l hl
        induction l with
        | nil => rfl
        | cons x l ih => simp only [List.all_cons, Bool.and_eq_true] at hl; rw [List.map_cons, h1 x hl.1, ih hl.2]
      have h2 : ∀ y, has2 (fun _ => false) y = true → ren2 (tauP []) y = y := by
        intro y hy
        cases y <;> simp only [has2, ren2] at hy ⊢ <;> first | rw [h1l _ hy] | exact h1 _ hy
      have h2l : ∀ l : List PV, l.all (has2 fun _ => false) = true → l.map (ren2 (tauP [])) = l := by
        intro l hl
        induction l with
        | nil => rfl
        | cons x l ih => simp only [List.all_cons, Bool.and_eq_true] at hl; rw [List.map_cons, h2 x hl.1, ih hl.2]
      cases r <;> simp only [has, ren] at hr ⊢ <;> first | rw [h2l _ hr] | exact h2 _ hr
    rw [hp, this]; exact hR

theorem ret_tmp {t : Nat} {r : List ResultVar} {x : PV} {ys : List PV} (h : look env t = some x) (hr : retL tab env H r ys) : retL tab env H (.tmp t :: r) (x :: ys) := ⟨x, ys, h, rfl, hr⟩
theorem ret_nil : retL tab env H [] [] := rfl
theorem ret_cell {a t : Nat} {r : List ResultVar} {i : TI} {n off : Nat} {cs : List PV} {x : PV} {ys : List PV} (h1 : tab t = some i) (h2 : i.kd.agg = false → i.size = 1) (h3 : look env a = some (.ptr n off)) (h4 : look H n = some (.obj cs))
    (h5 : off + i.size ≤ cs.length) (hx : x = if i.kd.agg then mkAgg ((cs.drop off).take i.size) else (cs.drop off).headD (.f (.v undef))) (hr : retL tab env H r ys) : retL tab env H (.cell a t :: r) (x :: ys) :=
  ⟨i, n, off, cs, ys, h1, h2, h3, h4, h5, by rw [hx], hr⟩

theorem T.le {f : Nat} {args args' : List PV} {k : Nat} {R : PV → Nat → Heap → Prop} (h : T P f args' k H R) (hl : args.length = args'.length) (ha : ∀ (i : Nat) x y, args[i]? = some x → args'[i]? = some y → PV.le x y) : T P f args k H R :=
  ⟨h.1, fun w φ So vals h1 h2 h3 h4 => h.2 w φ So vals h1 h2 (by omega) fun i a v hi hv => by
    have hlt : i < args.length := by rw [hl]; exact (List.getElem?_eq_some_iff.1 hi).1
    exact ha i args[i] a (by simp [hlt]) hi _ _ _ _ _ (h4 i args[i] v (by simp [hlt]) hv)⟩

/-! ### Single operations -/

theorem s_move {x : Operand} {pv : PV} (h : ev env x = some pv) (k : K pv nx H) : stepOp P tab env nx H K (.move x) := ⟨pv, h, k⟩
theorem s_assign {x : Operand} {pv : PV} (h : ev env x = some pv) (k : K pv nx H) : stepOp P tab env nx H K (.assign x) := ⟨pv, h, k⟩
theorem s_pick_t {x a b : Operand} {t : Bool} {pv : PV} (h : ev env x = some (.f (.v (.bool t)))) (ht : t = true) (ha : ev env a = some pv) (k : K pv nx H) : stepOp P tab env nx H K (.pick x a b) :=
  ⟨t, h, fun _ => ⟨pv, ha, k⟩, fun e => (by rw [ht] at e; cases e)⟩
theorem s_pick_f {x a b : Operand} {t : Bool} {pv : PV} (h : ev env x = some (.f (.v (.bool t)))) (ht : t = false) (hb : ev env b = some pv) (k : K pv nx H) : stepOp P tab env nx H K (.pick x a b) :=
  ⟨t, h, fun e => (by rw [ht] at e; cases e), fun _ => ⟨pv, hb, k⟩⟩
theorem s_alloc {e : Nat} {i : TI} (h : tab e = some i) (k : K (.ptr nx 0) (nx + 1) ((nx, .obj (i.zero.map fun v => .f (.v v))) :: H)) : stepOp P tab env nx H K (.alloc e) := ⟨i, h, k⟩
theorem s_box {t : Nat} {x : Operand} {pv : PV} (h : ev env x = some pv) (hs : pv.storable = true) (k : K (.ptr nx 0) (nx + 1) ((nx, .obj pv.cells) :: H)) : stepOp P tab env nx H K (.box t x) := ⟨pv, h, hs, k⟩

theorem s_load_ptr {t : Nat} {x : Operand} {i : TI} {n off : Nat} {cs : List PV} (h1 : tab t = some i) (h2 : i.kd.agg = true) (h3 : ev env x = some (.ptr n off)) (h4 : look H n = some (.obj cs)) (h5 : off + i.size ≤ cs.length)
    (k : K (mkAgg ((cs.drop off).take i.size)) nx H) : stepOp P tab env nx H K (.load t x) :=
  ⟨i, h1, fun e => (by rw [h2] at e; cases e), .inl ⟨n, off, cs, h3, h4, h5, by rw [if_pos h2]; exact k⟩⟩
theorem s_load_ptr1 {t : Nat} {x : Operand} {i : TI} {n off : Nat} {cs : List PV} {y : PV} (h1 : tab t = some i) (h2 : i.kd.agg = false) (hs : i.size = 1) (h3 : ev env x = some (.ptr n off)) (h4 : look H n = some (.obj cs))
    (h5 : cs[off]? = some y) (k : K y nx H) : stepOp P tab env nx H K (.load t x) :=
  ⟨i, h1, fun _ => hs, .inl ⟨n, off, cs, h3, h4, by have := (List.getElem?_eq_some_iff.1 h5).1; omega, by
    rw [if_neg (by simp [h2])]
    have : (cs.drop off).headD (.f (.v undef)) = y := by rw [List.headD_eq_head?_getD, List.head?_drop, h5]; rfl
    rw [this]; exact k⟩⟩
theorem s_load_ro1 {t : Nat} {x : Operand} {i : TI} {y : FV} (h1 : tab t = some i) (h2 : i.kd.agg = false) (hs : i.size = 1) (h3 : ev env x = some (.f (.ro y))) (hy : y.cells = [y]) (k : K (.f y) nx H) : stepOp P tab env nx H K (.load t x) :=
  ⟨i, h1, fun _ => hs, .inr (.inl ⟨y, h3, by rw [hy, hs]; rfl, fun e => (by rw [h2] at e; cases e), fun _ => hy, k⟩)⟩
theorem s_load_ro {t : Nat} {x : Operand} {i : TI} {cs : List FV} (h1 : tab t = some i) (h2 : i.kd.agg = true) (h3 : ev env x = some (.f (.ro (.agg cs)))) (hl : cs.length = i.size) (k : K (.f (.agg cs)) nx H) : stepOp P tab env nx H K (.load t x) :=
  ⟨i, h1, fun e => (by rw [h2] at e; cases e), .inr (.inl ⟨.agg cs, h3, hl, fun _ => rfl, fun e => (by rw [h2] at e; cases e), k⟩)⟩
theorem s_load_ep1 {t : Nat} {x : Operand} {i : TI} {n j off sz : Nat} {wr : Bool} {l : List FV} {y z : FV} (h1 : tab t = some i) (h2 : i.kd.agg = false) (hs : i.size = 1) (h3 : ev env x = some (.ep n j off)) (h4 : look H n = some (.buf wr sz l)) (h5 : l[j]? = some y)
    (h6 : y.cells[off]? = some z) (k : K (.f z) nx H) : stepOp P tab env nx H K (.load t x) :=
  ⟨i, h1, fun _ => hs, .inr (.inr ⟨n, j, off, wr, sz, l, y, h3, h4, h5, by have := (List.getElem?_eq_some_iff.1 h6).1; omega, by
    rw [if_neg (by simp [h2])]
    have : (y.cells.drop off).headD (.v undef) = z := by rw [List.headD_eq_head?_getD, List.head?_drop, h6]; rfl
    rw [this]; exact k⟩)⟩
theorem s_load_ep {t : Nat} {x : Operand} {i : TI} {n j off sz : Nat} {wr : Bool} {l : List FV} {y : FV} (h1 : tab t = some i) (h2 : i.kd.agg = true) (h3 : ev env x = some (.ep n j off)) (h4 : look H n = some (.buf wr sz l)) (h5 : l[j]? = some y)
    (h6 : off + i.size ≤ y.cells.length) (k : K (.f (.agg ((y.cells.drop off).take i.size))) nx H) : stepOp P tab env nx H K (.load t x) :=
  ⟨i, h1, fun e => (by rw [h2] at e; cases e), .inr (.inr ⟨n, j, off, wr, sz, l, y, h3, h4, h5, h6, by rw [if_pos h2]; exact k⟩)⟩

theorem s_store_ptr {t : Nat} {x y : Operand} {i : TI} {pv : PV} {n off : Nat} {cs : List PV} (h1 : tab t = some i) (h2 : ev env y = some pv) (h3 : pv.storable = true) (h4 : pv.cells.length = i.size) (h5 : ev env x = some (.ptr n off)) (h6 : look H n = some (.obj cs))
    (h7 : off + i.size ≤ cs.length) (k : K (.f (.v undef)) nx (hput H n (.obj (splice cs off pv.cells)))) : stepOp P tab env nx H K (.store t x y) := ⟨i, pv, h1, h2, h3, h4, .inl ⟨n, off, cs, h5, h6, h7, k⟩⟩
theorem s_store_ep {t : Nat} {x y : Operand} {i : TI} {pv : PV} {n j off sz : Nat} {l : List FV} {z : FV} {fs : List FV} (h1 : tab t = some i) (h2 : ev env y = some pv) (h3 : pv.storable = true) (h4 : pv.cells.length = i.size) (h5 : ev env x = some (.ep n j off))
    (h6 : look H n = some (.buf true sz l)) (h7 : l[j]? = some z) (h8 : off + i.size ≤ z.cells.length) (h9 : allF pv.cells = some fs) (h10 : (fs.all fun f => !f.isAgg) = true) (h11 : fs ≠ [])
    (k : K (.f (.v undef)) nx (hput H n (.buf true sz (l.set j (setCells z off fs))))) : stepOp P tab env nx H K (.store t x y) := ⟨i, pv, h1, h2, h3, h4, .inr ⟨n, j, off, sz, l, z, fs, h5, h6, h7, h8, h9, h10, h11, k⟩⟩

theorem s_nilCheck {x : Operand} {pv : PV} (h : ev env x = some pv) (hp : pv.isPtr) (k : K pv nx H) : stepOp P tab env nx H K (.nilCheck x) := ⟨pv, h, hp, k⟩

section
variable {t u : Nat} {x y : Operand} {k : IntKind} {a b : Int}
theorem s_bin {op : BinOp} {p q : Value} (h1 : ev env x = some (.f (.v p))) (h2 : ev env y = some (.f (.v q))) (h : stepBin op ((tab t).elim .other (·.kd)) (fun r => K (.f (.v r)) nx H) p q) : stepOp P tab env nx H K (.binOp op t x y u) := .inl ⟨p, q, h1, h2, h⟩
theorem s_add (h1 : ev env x = some (.f (.v (.int k a)))) (h2 : ev env y = some (.f (.v (.int k b)))) (h : K (.f (.v (.int k (k.wrap (a + b))))) nx H) : stepOp P tab env nx H K (.binOp .add t x y u) := s_bin h1 h2 ⟨rfl, h⟩
theorem s_sub (h1 : ev env x = some (.f (.v (.int k a)))) (h2 : ev env y = some (.f (.v (.int k b)))) (h : K (.f (.v (.int k (k.wrap (a - b))))) nx H) : stepOp P tab env nx H K (.binOp .sub t x y u) := s_bin h1 h2 ⟨rfl, h⟩
theorem s_mul (h1 : ev env x = some (.f (.v (.int k a)))) (h2 : ev env y = some (.f (.v (.int k b)))) (h : K (.f (.v (.int k (k.wrap (a * b))))) nx H) : stepOp P tab env nx H K (.binOp .mul t x y u) := s_bin h1 h2 ⟨rfl, h⟩
theorem s_quo (h1 : ev env x = some (.f (.v (.int k a)))) (h2 : ev env y = some (.f (.v (.int k b)))) (hb : b ≠ 0) (h : K (.f (.v (.int k (k.wrap (a.tdiv b))))) nx H) : stepOp P tab env nx H K (.binOp .quo t x y u) := s_bin h1 h2 ⟨rfl, hb, h⟩
theorem s_rem (h1 : ev env x = some (.f (.v (.int k a)))) (h2 : ev env y = some (.f (.v (.int k b)))) (hb : b ≠ 0) (h : K (.f (.v (.int k (a.tmod b)))) nx H) : stepOp P tab env nx H K (.binOp .rem t x y u) := s_bin h1 h2 ⟨rfl, hb, h⟩
theorem s_and (h1 : ev env x = some (.f (.v (.int k a)))) (h2 : ev env y = some (.f (.v (.int k b)))) (h : K (.f (.v (.int k (bitI .and k a b)))) nx H) : stepOp P tab env nx H K (.binOp .and t x y u) := s_bin h1 h2 ⟨rfl, h⟩
theorem s_or (h1 : ev env x = some (.f (.v (.int k a)))) (h2 : ev env y = some (.f (.v (.int k b)))) (h : K (.f (.v (.int k (bitI .or k a b)))) nx H) : stepOp P tab env nx H K (.binOp .or t x y u) := s_bin h1 h2 ⟨rfl, h⟩
theorem s_xor (h1 : ev env x = some (.f (.v (.int k a)))) (h2 : ev env y = some (.f (.v (.int k b)))) (h : K (.f (.v (.int k (bitI .xor k a b)))) nx H) : stepOp P tab env nx H K (.binOp .xor t x y u) := s_bin h1 h2 ⟨rfl, h⟩
theorem s_andNot (h1 : ev env x = some (.f (.v (.int k a)))) (h2 : ev env y = some (.f (.v (.int k b)))) (h : K (.f (.v (.int k (bitI .andNot k a b)))) nx H) : stepOp P tab env nx H K (.binOp .andNot t x y u) := s_bin h1 h2 ⟨rfl, h⟩
theorem s_shl {k' : IntKind} (h1 : ev env x = some (.f (.v (.int k a)))) (h2 : ev env y = some (.f (.v (.int k' b)))) (hb : 0 ≤ b) (h : K (.f (.v (.int k (k.wrap (a * 2 ^ min b.toNat k.bits))))) nx H) : stepOp P tab env nx H K (.binOp .shl t x y u) := s_bin h1 h2 ⟨hb, h⟩
theorem s_shr {k' : IntKind} (h1 : ev env x = some (.f (.v (.int k a)))) (h2 : ev env y = some (.f (.v (.int k' b)))) (hb : 0 ≤ b) (h : K (.f (.v (.int k (a.fdiv (2 ^ min b.toNat k.bits))))) nx H) : stepOp P tab env nx H K (.binOp .shr t x y u) := s_bin h1 h2 ⟨hb, h⟩
theorem s_eql (h1 : ev env x = some (.f (.v (.int k a)))) (h2 : ev env y = some (.f (.v (.int k b)))) (h : K (.f (.v (.bool (decide (a = b))))) nx H) : stepOp P tab env nx H K (.binOp .eql t x y u) := s_bin h1 h2 ⟨rfl, h⟩
theorem s_neq (h1 : ev env x = some (.f (.v (.int k a)))) (h2 : ev env y = some (.f (.v (.int k b)))) (h : K (.f (.v (.bool (!decide (a = b))))) nx H) : stepOp P tab env nx H K (.binOp .neq t x y u) := s_bin h1 h2 ⟨rfl, h⟩
theorem s_lss (h1 : ev env x = some (.f (.v (.int k a)))) (h2 : ev env y = some (.f (.v (.int k b)))) (h : K (.f (.v (.bool (decide (a < b))))) nx H) : stepOp P tab env nx H K (.binOp .lss t x y u) := s_bin h1 h2 ⟨rfl, h⟩
theorem s_leq (h1 : ev env x = some (.f (.v (.int k a)))) (h2 : ev env y = some (.f (.v (.int k b)))) (h : K (.f (.v (.bool (decide (a ≤ b))))) nx H) : stepOp P tab env nx H K (.binOp .leq t x y u) := s_bin h1 h2 ⟨rfl, h⟩
theorem s_gtr (h1 : ev env x = some (.f (.v (.int k a)))) (h2 : ev env y = some (.f (.v (.int k b)))) (h : K (.f (.v (.bool (decide (b < a))))) nx H) : stepOp P tab env nx H K (.binOp .gtr t x y u) := s_bin h1 h2 ⟨rfl, h⟩
theorem s_geq (h1 : ev env x = some (.f (.v (.int k a)))) (h2 : ev env y = some (.f (.v (.int k b)))) (h : K (.f (.v (.bool (decide (b ≤ a))))) nx H) : stepOp P tab env nx H K (.binOp .geq t x y u) := s_bin h1 h2 ⟨rfl, h⟩

theorem wrap_i64 {r : Int} (h : -9223372036854775808 ≤ r ∧ r ≤ 9223372036854775807) : IntKind.i64.wrap r = r := by
  have e1 : IntKind.i64.signed = true := rfl
  have e2 : IntKind.i64.bits = 64 := rfl
  simp only [IntKind.wrap, e1, e2]
  rw [show (2:Int) ^ 64 = 18446744073709551616 from rfl, show (2:Int) ^ (64 - 1) = 9223372036854775808 from rfl]
  simp only [Bool.true_and, decide_eq_true_eq]
  split <;> omega
/-- On ints, where nothing runs over. -/
theorem s_addi {r : Int} (h1 : ev env x = some (.f (.v (.int .i64 a)))) (h2 : ev env y = some (.f (.v (.int .i64 b)))) (hr : r = a + b) (hb : -9223372036854775808 ≤ a + b ∧ a + b ≤ 9223372036854775807) (h : K (.f (.v (.int .i64 r))) nx H) :
    stepOp P tab env nx H K (.binOp .add t x y u) := s_add h1 h2 (by rw [wrap_i64 hb, ← hr]; exact h)
theorem s_subi {r : Int} (h1 : ev env x = some (.f (.v (.int .i64 a)))) (h2 : ev env y = some (.f (.v (.int .i64 b)))) (hr : r = a - b) (hb : -9223372036854775808 ≤ a - b ∧ a - b ≤ 9223372036854775807) (h : K (.f (.v (.int .i64 r))) nx H) :
    stepOp P tab env nx H K (.binOp .sub t x y u) := s_sub h1 h2 (by rw [wrap_i64 hb, ← hr]; exact h)
theorem s_muli {r : Int} (h1 : ev env x = some (.f (.v (.int .i64 a)))) (h2 : ev env y = some (.f (.v (.int .i64 b)))) (hr : r = a * b) (hb : -9223372036854775808 ≤ a * b ∧ a * b ≤ 9223372036854775807) (h : K (.f (.v (.int .i64 r))) nx H) :
    stepOp P tab env nx H K (.binOp .mul t x y u) := s_mul h1 h2 (by rw [wrap_i64 hb, ← hr]; exact h)
theorem s_eqstr {p q : ByteArray} (h1 : ev env x = some (.f (.v (.string p)))) (h2 : ev env y = some (.f (.v (.string q)))) (h : K (.f (.v (.bool (p.toList == q.toList)))) nx H) : stepOp P tab env nx H K (.binOp .eql t x y u) := s_bin h1 h2 h
theorem s_nestr {p q : ByteArray} (h1 : ev env x = some (.f (.v (.string p)))) (h2 : ev env y = some (.f (.v (.string q)))) (h : K (.f (.v (.bool (!(p.toList == q.toList))))) nx H) : stepOp P tab env nx H K (.binOp .neq t x y u) := s_bin h1 h2 h
theorem s_eqbool {i : TI} {p q : Bool} (ht : tab t = some i) (hk : i.kd = .bool) (h1 : ev env x = some (.f (.v (.bool p)))) (h2 : ev env y = some (.f (.v (.bool q)))) (h : K (.f (.v (.bool (p == q)))) nx H) : stepOp P tab env nx H K (.binOp .eql t x y u) :=
  s_bin h1 h2 (by rw [ht]; simp only [Option.elim, hk]; exact h)
theorem s_nebool {i : TI} {p q : Bool} (ht : tab t = some i) (hk : i.kd = .bool) (h1 : ev env x = some (.f (.v (.bool p)))) (h2 : ev env y = some (.f (.v (.bool q)))) (h : K (.f (.v (.bool (!(p == q))))) nx H) : stepOp P tab env nx H K (.binOp .neq t x y u) :=
  s_bin h1 h2 (by rw [ht]; simp only [Option.elim, hk]; exact h)
theorem s_isnil {i : TI} {pv : PV} {e : Nat} (ht : tab t = some i) (hk : i.kd = .slice e) (h1 : ev env x = some pv) (hg : nilGuess H (.slice e) pv) (h : ∀ b, nilFit H (.slice e) pv b → K (.f (.v (.bool b))) nx H) : stepOp P tab env nx H K (.binOp .eql t x (.const (.slice none 0 0)) u) :=
  .inr (.inl ⟨i, pv, ht, h1, by rw [hk]; exact hg, .inr (.inl ⟨e, hk, rfl⟩), .inl ⟨rfl, by rw [hk]; exact h⟩⟩)
theorem s_notnil {i : TI} {pv : PV} {e : Nat} (ht : tab t = some i) (hk : i.kd = .slice e) (h1 : ev env x = some pv) (hg : nilGuess H (.slice e) pv) (h : ∀ b, nilFit H (.slice e) pv b → K (.f (.v (.bool (!b)))) nx H) : stepOp P tab env nx H K (.binOp .neq t x (.const (.slice none 0 0)) u) :=
  .inr (.inl ⟨i, pv, ht, h1, by rw [hk]; exact hg, .inr (.inl ⟨e, hk, rfl⟩), .inr ⟨rfl, by rw [hk]; exact h⟩⟩)
/-- A pointer that is not nil. -/
theorem s_ptrnil {i : TI} {pv : PV} {e : Nat} (ht : tab t = some i) (hk : i.kd = .ptr e) (h1 : ev env x = some pv) (hg : nilGuess H (.ptr e) pv) (h : K (.f (.v (.bool false))) nx H) : stepOp P tab env nx H K (.binOp .eql t x (.const (.pointer none)) u) :=
  .inr (.inl ⟨i, pv, ht, h1, by rw [hk]; exact hg, .inl ⟨e, hk, rfl⟩, .inl ⟨rfl, by
    rw [hk]; intro b hb
    have : b = false := by
      cases pv with
      | f z => cases z <;> simp only [nilGuess, nilFit] at hg hb <;> first | exact hb | exact hg.elim
      | _ => simp only [nilGuess, nilFit] at hg hb <;> first | exact hb | exact hg.elim
    rw [this]; exact h⟩⟩)
theorem s_ptrnot {i : TI} {pv : PV} {e : Nat} (ht : tab t = some i) (hk : i.kd = .ptr e) (h1 : ev env x = some pv) (hg : nilGuess H (.ptr e) pv) (h : K (.f (.v (.bool true))) nx H) : stepOp P tab env nx H K (.binOp .neq t x (.const (.pointer none)) u) :=
  .inr (.inl ⟨i, pv, ht, h1, by rw [hk]; exact hg, .inl ⟨e, hk, rfl⟩, .inr ⟨rfl, by
    rw [hk]; intro b hb
    have : b = false := by
      cases pv with
      | f z => cases z <;> simp only [nilGuess, nilFit] at hg hb <;> first | exact hb | exact hg.elim
      | _ => simp only [nilGuess, nilFit] at hg hb <;> first | exact hb | exact hg.elim
    rw [this]; exact h⟩⟩)
theorem s_ptrnil0 {i : TI} {e : Nat} (ht : tab t = some i) (hk : i.kd = .ptr e) (h1 : ev env x = some (.f (.v (.pointer none)))) (h : K (.f (.v (.bool true))) nx H) : stepOp P tab env nx H K (.binOp .eql t x (.const (.pointer none)) u) :=
  s_bin h1 rfl (by rw [ht]; simp only [Option.elim, hk]; exact h)
theorem s_eqstruct {fs : List (Nat × Nat)} {cs ds : List FV} {r : Bool} (hq : SEq P t fs) (h1 : ev env x = some (.f (.agg cs))) (h2 : ev env y = some (.f (.agg ds))) (hl : cs.length = ds.length) (hf : (fs.all fun p => decide (p.1 < cs.length)) = true)
    (hr : eqFs tab cs ds fs = some r) (h : K (.f (.v (.bool r))) nx H) : stepOp P tab env nx H K (.binOp .eql t x y u) := .inr (.inr ⟨fs, cs, ds, r, hq, h1, h2, hl, hf, hr, .inl ⟨rfl, h⟩⟩)
theorem s_nestruct {fs : List (Nat × Nat)} {cs ds : List FV} {r : Bool} (hq : SEq P t fs) (h1 : ev env x = some (.f (.agg cs))) (h2 : ev env y = some (.f (.agg ds))) (hl : cs.length = ds.length) (hf : (fs.all fun p => decide (p.1 < cs.length)) = true)
    (hr : eqFs tab cs ds fs = some r) (h : K (.f (.v (.bool (!r)))) nx H) : stepOp P tab env nx H K (.binOp .neq t x y u) := .inr (.inr ⟨fs, cs, ds, r, hq, h1, h2, hl, hf, hr, .inr ⟨rfl, h⟩⟩)
theorem s_not {p : Bool} (h1 : ev env x = some (.f (.v (.bool p)))) (h : K (.f (.v (.bool (!p)))) nx H) : stepOp P tab env nx H K (.unOp .not t x) := ⟨_, h1, h⟩
theorem s_neg (h1 : ev env x = some (.f (.v (.int k a)))) (h : K (.f (.v (.int k (k.wrap (0 - a))))) nx H) : stepOp P tab env nx H K (.unOp .neg t x) := ⟨_, h1, h⟩
theorem s_compl (h1 : ev env x = some (.f (.v (.int k a)))) (h : K (.f (.v (.int k (bitI .xor k (if k.signed then -1 else k.max) a)))) nx H) : stepOp P tab env nx H K (.unOp .xor t x) := ⟨_, h1, h⟩
end

theorem s_conv {s t : Nat} {x : Operand} {is it : TI} {k k' k2 : IntKind} {a : Int} (h1 : tab s = some is) (h2 : tab t = some it) (h3 : it.kd = .int k) (h4 : is.kd = .int k2) (h5 : ev env x = some (.f (.v (.int k' a)))) (h : K (.f (.v (.int k (k.wrap a)))) nx H) :
    stepOp P tab env nx H K (.convert s t x) := .inl ⟨is, it, h1, h2, .inl ⟨k, k', a, h3, h5, ⟨k2, h4⟩, h⟩⟩
theorem s_conv_id {s t : Nat} {x : Operand} {is it : TI} {k k' k2 : IntKind} {a : Int} (h1 : tab s = some is) (h2 : tab t = some it) (h3 : it.kd = .int k) (h4 : is.kd = .int k2) (h5 : ev env x = some (.f (.v (.int k' a)))) (hw : k.wrap a = a) (h : K (.f (.v (.int k a))) nx H) :
    stepOp P tab env nx H K (.convert s t x) := s_conv h1 h2 h3 h4 h5 (by rw [hw]; exact h)
theorem s_conv_str {s t : Nat} {x : Operand} {is it : TI} {a : ByteArray} (h1 : tab s = some is) (h2 : tab t = some it) (h3 : it.kd = .str) (h4 : is.kd = .str) (h5 : ev env x = some (.f (.v (.string a)))) (h : K (.f (.v (.string a))) nx H) :
    stepOp P tab env nx H K (.convert s t x) := .inl ⟨is, it, h1, h2, .inr ⟨a, h3, h4, h5, h⟩⟩
theorem s_text {s t e : Nat} {x : Operand} {is it ie : TI} {ns : List Int} (h1 : tab s = some is) (h2 : tab t = some it) (h3 : is.kd = .slice e) (h4 : tab e = some ie) (h5 : ie.kd = .int .u8) (h6 : it.kd = .str) (h7 : Holds env H x 1 (bytesF ns))
    (h : K (.f (.v (.string (textOf ns)))) nx H) : stepOp P tab env nx H K (.convert s t x) := .inr ⟨is, it, h1, h2, .inl ⟨e, ie, ns, h3, h4, h5, h6, h7, h⟩⟩
theorem s_bytes {s t e : Nat} {x : Operand} {is it ie : TI} {a : ByteArray} (h1 : tab s = some is) (h2 : tab t = some it) (h3 : is.kd = .str) (h4 : it.kd = .slice e) (h5 : tab e = some ie) (h6 : ie.kd = .int .u8) (h7 : ev env x = some (.f (.v (.string a))))
    (h : K (.f (.sl 1 false (charsOf a))) nx H) : stepOp P tab env nx H K (.convert s t x) := .inr ⟨is, it, h1, h2, .inr (.inl ⟨e, ie, a, h3, h4, h5, h6, h7, h⟩)⟩
theorem s_mark {s e n lo : Nat} {hi : Option Nat} {wr : Bool} {x : Operand} {is ie : TI} {l : List FV} (h1 : tab s = some is) (h3 : is.kd = .slice e) (h4 : tab e = some ie) (h5 : ie.kd = .int .u8) (h6 : ev env x = some (.ref n lo hi)) (h7 : look H n = some (.buf wr 1 l))
    (h8 : view lo hi l ≠ []) (h : K (.f (.sl 1 false (view lo hi l))) nx (drop H n)) : stepOp P tab env nx H K (.convert s s x) := .inr ⟨is, is, h1, h1, .inr (.inr ⟨e, ie, n, lo, hi, wr, l, rfl, h3, h4, h5, h6, h7, h8, h⟩)⟩

theorem holds_sl {x : Operand} {sz : Nat} {cl : Bool} {l : List FV} (h : ev env x = some (.f (.sl sz cl l))) : Holds env H x sz l := .inl ⟨cl, h⟩
theorem holds_nil {x : Operand} {sz : Nat} (h : ev env x = some (.f (.v (.slice none 0 0)))) : Holds env H x sz [] := .inr (.inl ⟨0, 0, h, rfl, rfl, rfl⟩)
theorem holds_ref {x : Operand} {sz n lo : Nat} {hi : Option Nat} {wr : Bool} {m l : List FV} (h : ev env x = some (.ref n lo hi)) (h2 : look H n = some (.buf wr sz m)) (hl : l = view lo hi m) : Holds env H x sz l := .inr (.inr ⟨n, lo, hi, wr, m, h, h2, hl⟩)

theorem s_len {t e sz : Nat} {x : Operand} {i : TI} {l : List FV} (h1 : tab t = some i) (h2 : i.kd = .slice e) (h3 : Holds env H x sz l) (h : K (.f (.v (.int .i64 l.length))) nx H) :
    stepOp P tab env nx H K (.call { callee := .builtin .len, args := #[x], argTypes := #[t] }) := ⟨i, h1, .inl ⟨e, sz, l, h2, h3, h⟩⟩
theorem s_len_str {t : Nat} {x : Operand} {i : TI} {s : ByteArray} (h1 : tab t = some i) (h2 : i.kd = .str) (h3 : ev env x = some (.f (.v (.string s)))) (h : K (.f (.v (.int .i64 s.size))) nx H) :
    stepOp P tab env nx H K (.call { callee := .builtin .len, args := #[x], argTypes := #[t] }) := ⟨i, h1, .inr (.inl ⟨s, h2, h3, h⟩)⟩
theorem s_len_arr {t n e : Nat} {x : Operand} {i : TI} (h1 : tab t = some i) (h2 : i.kd = .arr n e) (h : K (.f (.v (.int .i64 n))) nx H) :
    stepOp P tab env nx H K (.call { callee := .builtin .len, args := #[x], argTypes := #[t] }) := ⟨i, h1, .inr (.inr ⟨n, e, h2, h⟩)⟩

theorem s_append_ref {t u e n lo : Nat} {wr : Bool} {x y : Operand} {i ie : TI} {l xs : List FV} (h1 : tab t = some i) (h2 : i.kd = .slice e) (h3 : tab e = some ie) (h4 : ie.size ≠ 0 ∧ ie.bytes ≠ 0) (h5 : Src tab env H u y ie.size xs) (h6 : ev env x = some (.ref n lo none))
    (h7 : look H n = some (.buf wr ie.size l)) (h8 : (l.length + xs.length) * ie.bytes ≤ 140737488355328) (h : K (.ref nx 0 none) (nx + 1) ((nx, .buf wr ie.size (l.drop lo ++ xs)) :: drop H n)) :
    stepOp P tab env nx H K (.call { callee := .builtin .append, args := #[x, y], argTypes := #[t, u] }) := ⟨i, e, ie, xs, h1, h2, h3, h4.1, h4.2, h5, .inl ⟨n, lo, wr, l, h6, h7, h8, h⟩⟩
theorem s_append_nil {t u e : Nat} {x y : Operand} {i ie : TI} {xs : List FV} (h1 : tab t = some i) (h2 : i.kd = .slice e) (h3 : tab e = some ie) (h4 : ie.size ≠ 0 ∧ ie.bytes ≠ 0) (h5 : Src tab env H u y ie.size xs) (h6 : ev env x = some (.f (.v (.slice none 0 0))))
    (h8 : xs.length * ie.bytes ≤ 140737488355328) (h : K (.ref nx 0 none) (nx + 1) ((nx, .buf true ie.size xs) :: H)) :
    stepOp P tab env nx H K (.call { callee := .builtin .append, args := #[x, y], argTypes := #[t, u] }) := ⟨i, e, ie, xs, h1, h2, h3, h4.1, h4.2, h5, .inr (.inl ⟨h6, h8, h⟩)⟩
theorem s_append_clip {t u e : Nat} {x y : Operand} {i ie : TI} {l xs : List FV} (h1 : tab t = some i) (h2 : i.kd = .slice e) (h3 : tab e = some ie) (h4 : ie.size ≠ 0 ∧ ie.bytes ≠ 0) (h5 : Src tab env H u y ie.size xs) (h6 : ev env x = some (.f (.sl ie.size true l)))
    (h8 : (l.length + xs.length) * ie.bytes ≤ 140737488355328) (hx : xs ≠ []) (h : K (.ref nx 0 none) (nx + 1) ((nx, .buf true ie.size (l ++ xs)) :: H)) :
    stepOp P tab env nx H K (.call { callee := .builtin .append, args := #[x, y], argTypes := #[t, u] }) := ⟨i, e, ie, xs, h1, h2, h3, h4.1, h4.2, h5, .inr (.inr (.inl ⟨l, h6, h8, hx, h⟩))⟩
theorem src_sl {u e sz : Nat} {iu : TI} {y : Operand} {xs : List FV} (h1 : tab u = some iu) (h2 : iu.kd = .slice e) (h : Holds env H y sz xs) : Src tab env H u y sz xs := ⟨iu, h1, .inl ⟨e, h2, h⟩⟩
theorem src_str {u : Nat} {iu : TI} {y : Operand} {s : ByteArray} (h1 : tab u = some iu) (h2 : iu.kd = .str) (h : ev env y = some (.f (.v (.string s)))) : Src tab env H u y 1 (charsOf s) := ⟨iu, h1, .inr ⟨s, h2, rfl, h, rfl⟩⟩

theorem s_max {xs : Array Operand} {ts : Array Nat} {k : IntKind} {p m : Int} {qs : List PV} {ns : List Int} (h1 : evs env xs.toList = some (.f (.v (.int k p)) :: qs)) (h2 : intsOf qs = some ns) (hm : m = ns.foldl max p) (h : K (.f (.v (.int k m))) nx H) :
    stepOp P tab env nx H K (.call { callee := .builtin .max, args := xs, argTypes := ts }) := by
  have : stepMM env H nx K .max xs.toList := ⟨k, p, qs, ns, h1, h2, .inl ⟨rfl, by rw [← hm]; exact h⟩⟩
  exact this
theorem s_min {xs : Array Operand} {ts : Array Nat} {k : IntKind} {p m : Int} {qs : List PV} {ns : List Int} (h1 : evs env xs.toList = some (.f (.v (.int k p)) :: qs)) (h2 : intsOf qs = some ns) (hm : m = ns.foldl min p) (h : K (.f (.v (.int k m))) nx H) :
    stepOp P tab env nx H K (.call { callee := .builtin .min, args := xs, argTypes := ts }) := by
  have : stepMM env H nx K .min xs.toList := ⟨k, p, qs, ns, h1, h2, .inr ⟨rfl, by rw [← hm]; exact h⟩⟩
  exact this

theorem s_build {t : Nat} {parts : Array (Nat × Operand)} {i : TI} {fs : List (Nat × Nat)} (h1 : tab t = some i) (h2 : i.kd = .struct fs) (h3 : (fs.all fun p => (tab p.2).isSome) = true)
    (h : buildP tab env fs (fun cs => K (mkAgg cs) nx H) parts.toList (i.zero.map fun v => .f (.v v))) : stepOp P tab env nx H K (.build t parts) := .inl ⟨i, fs, h1, h2, h3, h⟩
theorem s_buildA {t n e : Nat} {parts : Array (Nat × Operand)} {i ie : TI} (h1 : tab t = some i) (h2 : i.kd = .arr n e) (h3 : tab e = some ie)
    (h : buildP tab env ((List.range n).map fun k => (k * ie.size, e)) (fun cs => K (mkAgg cs) nx H) parts.toList (i.zero.map fun v => .f (.v v))) : stepOp P tab env nx H K (.build t parts) := .inr ⟨i, n, e, ie, h1, h2, h3, h⟩
theorem b_nil {fs : List (Nat × Nat)} {C : List PV → Prop} {cs : List PV} (h : C cs) : buildP tab env fs C [] cs := ⟨cs, LeP.refl cs, h⟩
theorem b_nilL {fs : List (Nat × Nat)} {C : List PV → Prop} {cs : List PV} (ds : List PV) (hl : LeP cs ds) (h : C ds) : buildP tab env fs C [] cs := ⟨ds, hl, h⟩
theorem b_cons {fs : List (Nat × Nat)} {C : List PV → Prop} {cs : List PV} {q off ft : Nat} {x : Operand} {r : List (Nat × Operand)} {it : TI} {pv : PV} (h1 : fs[q]? = some (off, ft)) (h2 : tab ft = some it) (h3 : ev env x = some pv) (h4 : pv.storable = true)
    (h5 : pv.cells.length = it.size) (h6 : off + it.size ≤ cs.length) (h : buildP tab env fs C r (splice cs off pv.cells)) : buildP tab env fs C ((q, x) :: r) cs := ⟨off, ft, it, pv, h1, h2, h3, h4, h5, h6, h⟩
theorem s_buildSlice {t len e : Nat} {parts : Array (Nat × Operand)} {i ie : TI} {ps : List PV} {ys : List FV} (h1 : tab t = some i) (h2 : i.kd = .slice e) (h3 : tab e = some ie) (h4 : ie.size ≠ 0) (h5 : len * ie.size ≤ 16777216) (h6 : parts.toList.map (·.1) = List.range len)
    (h7 : evs env (parts.toList.map (·.2)) = some ps) (h8 : frzs H ps = some (ys, H')) (h9 : (ys.all (·.okay ie.size)) = true) (h : K (.ref nx 0 none) (nx + 1) ((nx, .buf true ie.size ys) :: H')) : stepOp P tab env nx H K (.buildSlice t len parts) :=
  ⟨i, e, ie, ps, ys, H', h1, h2, h3, h4, h5, h6, h7, h8, h9, h⟩
theorem s_makeFunc {fn : Fn} {caps : Array Operand} {fi : Array Operand} {xs : List PV} (h1 : caps.toList.mapM (ev env) = some xs) (h0 : fi = #[]) (h : K (.clo fn xs) nx H) : stepOp P tab env nx H K (.makeFunc fn fi caps) := ⟨by subst h0; rfl, xs, h1, h⟩
theorem s_makeSlice (h0 : ∀ e ie, tab e = some ie → ie.kd.agg = false → ie.size = 1) {t e : Nat} {x y : Operand} {i ie : TI} {k k2 : IntKind} {q r : Int} (h1 : tab t = some i) (h2 : i.kd = .slice e) (h3 : tab e = some ie) (h4 : ie.size ≠ 0) (h5 : ev env x = some (.f (.v (.int k q))))
    (h6 : ev env y = some (.f (.v (.int k2 r)))) (h7 : 0 ≤ q ∧ q ≤ r ∧ (ie.bytes : Int) * r ≤ 281474976710656 ∧ r ≤ 9223372036854775807)
    (h : K (.ref nx 0 none) (nx + 1) ((nx, .buf true ie.size (List.replicate q.toNat (if ie.kd.agg then .agg (ie.zero.map .v) else .v (ie.zero.headD undef)))) :: H)) : stepOp P tab env nx H K (.makeSlice t x y) :=
  ⟨h0, i, e, ie, k, k2, q, r, h1, h2, h3, h4, h5, h6, h7.1, h7.2.1, h7.2.2.1, h7.2.2.2, h⟩

theorem bound_some {op : Operand} {d n : Nat} {k : IntKind} {q : Int} (h : ev env op = some (.f (.v (.int k q)))) (h2 : q = n) : bound env (some op) d n := ⟨k, q, h, by omega, by omega⟩
theorem bound_none {d : Nat} : bound env none d d := rfl
theorem s_slice_str {t : Nat} {x : Operand} {lo hi : Option Operand} {i : TI} {s : ByteArray} {a b : Nat} (h1 : tab t = some i) (h2 : i.kd = .str) (h3 : ev env x = some (.f (.v (.string s)))) (h4 : bound env lo 0 a) (h5 : bound env hi s.size b) (h6 : a ≤ b ∧ b ≤ s.size)
    (h : K (.f (.v (.string (s.extract a b)))) nx H) : stepOp P tab env nx H K (.slice t x lo hi none) := ⟨i, h1, .inl ⟨s, a, b, h2, rfl, h3, h4, h5, h6.1, h6.2, h⟩⟩
theorem s_slice_sl {t e : Nat} {x : Operand} {lo hi : Option Operand} {i ie : TI} {cl : Bool} {l : List FV} {a b : Nat} (h1 : tab t = some i) (h2 : i.kd = .slice e) (h3 : tab e = some ie) (hz : ie.size ≠ 0) (h4 : ev env x = some (.f (.sl ie.size cl l))) (h5 : bound env lo 0 a)
    (h6 : bound env hi l.length b) (h7 : a ≤ b ∧ b ≤ l.length) (h : K (.f (.sl ie.size (cutClip none hi cl) ((l.take b).drop a))) nx H) : stepOp P tab env nx H K (.slice t x lo hi none) :=
  ⟨i, h1, .inr (.inl ⟨e, ie, cl, l, a, b, h2, h3, hz, h4, h5, h6, h7.1, h7.2, fun m hm => (by cases hm), h⟩)⟩
theorem s_slice_sl3 {t e : Nat} {x p m : Operand} {lo : Option Operand} {i ie : TI} {cl : Bool} {l : List FV} {a b : Nat} (h1 : tab t = some i) (h2 : i.kd = .slice e) (h3 : tab e = some ie) (hz : ie.size ≠ 0) (h4 : ev env x = some (.f (.sl ie.size cl l))) (h5 : bound env lo 0 a)
    (h6 : bound env (some p) l.length b) (h8 : bound env (some m) 0 b) (h7 : a ≤ b ∧ b ≤ l.length) (h : K (.f (.sl ie.size true ((l.take b).drop a))) nx H) : stepOp P tab env nx H K (.slice t x lo (some p) (some m)) :=
  ⟨i, h1, .inr (.inl ⟨e, ie, cl, l, a, b, h2, h3, hz, h4, h5, h6, h7.1, h7.2, fun m' hm => by cases hm; exact ⟨p, rfl, h8⟩, h⟩)⟩
theorem s_slice_ref {t e n lo0 : Nat} {hi0 : Option Nat} {wr : Bool} {x : Operand} {lo hi : Option Operand} {i ie : TI} {l : List FV} {a b : Nat} (h1 : tab t = some i) (h2 : i.kd = .slice e) (h3 : tab e = some ie) (h4 : ev env x = some (.ref n lo0 hi0)) (h5 : look H n = some (.buf wr ie.size l))
    (h6 : bound env lo 0 a) (h7 : bound env hi (view lo0 hi0 l).length b) (h8 : a ≤ b ∧ b ≤ (view lo0 hi0 l).length) (h : K (.ref n (lo0 + a) (cutHi hi hi0 (lo0 + b))) nx H) : stepOp P tab env nx H K (.slice t x lo hi none) :=
  ⟨i, h1, .inr (.inr (.inl ⟨e, ie, n, lo0, hi0, wr, l, a, b, h2, h3, rfl, h4, h5, h6, h7, h8.1, h8.2, h⟩))⟩
theorem s_slice_nil {t e : Nat} {x : Operand} {lo hi mx : Option Operand} {i ie : TI} (h1 : tab t = some i) (h2 : i.kd = .slice e) (h3 : tab e = some ie) (h4 : ev env x = some (.f (.v (.slice none 0 0)))) (h5 : bound env lo 0 0) (h6 : bound env hi 0 0) (h7 : bound env mx 0 0) (h8 : mx = none ∨ hi ≠ none)
    (h : K (.f (.v (.slice none 0 0))) nx H) : stepOp P tab env nx H K (.slice t x lo hi mx) := ⟨i, h1, .inr (.inr (.inr ⟨e, ie, h2, h3, h4, h5, h6, h7, h8, h⟩))⟩

section
variable {s q off ft : Nat} {x : Operand} {i it : TI} {fs : List (Nat × Nat)}
theorem s_fa_ptr {n o1 : Nat} (h1 : tab s = some i) (h2 : i.kd = .struct fs) (h3 : fs[q]? = some (off, ft)) (h4 : tab ft = some it) (h5 : it.size ≠ 0 ∧ (it.kd.agg = false → it.size = 1)) (h6 : ev env x = some (.ptr n o1)) (h : K (.ptr n (o1 + off)) nx H) :
    stepOp P tab env nx H K (.fieldAddr s x q) := ⟨i, fs, off, ft, it, h1, h2, h3, h4, h5.1, h5.2, .inl ⟨n, o1, h6, h⟩⟩
theorem s_fa_ro {cs : List FV} (h1 : tab s = some i) (h2 : i.kd = .struct fs) (h3 : fs[q]? = some (off, ft)) (h4 : tab ft = some it) (h5 : it.size ≠ 0 ∧ (it.kd.agg = false → it.size = 1)) (h6 : ev env x = some (.f (.ro (.agg cs)))) (h7 : off + it.size ≤ cs.length)
    (h8 : it.kd.agg = false → (partF false cs off 1).isAgg = false) (h : K (.f (.ro (partF it.kd.agg cs off it.size))) nx H) :
    stepOp P tab env nx H K (.fieldAddr s x q) := ⟨i, fs, off, ft, it, h1, h2, h3, h4, h5.1, h5.2, .inr (.inl ⟨cs, h6, h7, h8, h⟩)⟩
theorem s_fa_ep {n j o1 : Nat} (h1 : tab s = some i) (h2 : i.kd = .struct fs) (h3 : fs[q]? = some (off, ft)) (h4 : tab ft = some it) (h5 : it.size ≠ 0 ∧ (it.kd.agg = false → it.size = 1)) (h6 : ev env x = some (.ep n j o1)) (h : K (.ep n j (o1 + off)) nx H) :
    stepOp P tab env nx H K (.fieldAddr s x q) := ⟨i, fs, off, ft, it, h1, h2, h3, h4, h5.1, h5.2, .inr (.inr ⟨n, j, o1, h6, h⟩)⟩
theorem s_field {cs : List PV} (h1 : tab s = some i) (h2 : i.kd = .struct fs) (h3 : fs[q]? = some (off, ft)) (h4 : tab ft = some it) (h5 : it.kd.agg = false → it.size = 1) (h6 : ev env x = some (.agg cs)) (h7 : off + it.size ≤ cs.length)
    (h : K (if it.kd.agg then mkAgg ((cs.drop off).take it.size) else (cs.drop off).headD (.f (.v undef))) nx H) : stepOp P tab env nx H K (.field s x q) := ⟨i, fs, off, ft, it, h1, h2, h3, h4, h5, .inl ⟨cs, h6, h7, h⟩⟩
theorem s_fieldF {cs : List FV} (h1 : tab s = some i) (h2 : i.kd = .struct fs) (h3 : fs[q]? = some (off, ft)) (h4 : tab ft = some it) (h5 : it.kd.agg = false → it.size = 1) (h6 : ev env x = some (.f (.agg cs))) (h7 : off + it.size ≤ cs.length)
    (h : K (.f (partF it.kd.agg cs off it.size)) nx H) : stepOp P tab env nx H K (.field s x q) := ⟨i, fs, off, ft, it, h1, h2, h3, h4, h5, .inr ⟨cs, h6, h7, h⟩⟩
end

section
variable {t e : Nat} {x ix : Operand} {i ie : TI} {k : IntKind} {q : Int}
theorem s_ia_sl {cl : Bool} {l : List FV} {y : FV} (h1 : tab t = some i) (h2 : i.kd = .slice e) (h3 : tab e = some ie) (h4 : ev env ix = some (.f (.v (.int k q)))) (h5 : ev env x = some (.f (.sl ie.size cl l))) (h6 : 0 ≤ q) (h7 : l[q.toNat]? = some y) (h : K (.f (.ro y)) nx H) :
    stepOp P tab env nx H K (.indexAddr t x ix) := ⟨i, e, ie, k, q, h1, h3, h4, h6, .inl ⟨cl, l, y, h2, h5, h7, h⟩⟩
theorem s_ia_ref {n lo : Nat} {hi : Option Nat} {wr : Bool} {l : List FV} (h1 : tab t = some i) (h2 : i.kd = .slice e) (h3 : tab e = some ie) (h4 : ev env ix = some (.f (.v (.int k q)))) (h5 : ev env x = some (.ref n lo hi)) (h5' : look H n = some (.buf wr ie.size l)) (h6 : 0 ≤ q)
    (h7 : q.toNat < (view lo hi l).length) (h : K (.ep n (lo + q.toNat) 0) nx H) : stepOp P tab env nx H K (.indexAddr t x ix) := ⟨i, e, ie, k, q, h1, h3, h4, h6, .inr (.inl ⟨n, lo, hi, wr, l, h2, h5, h5', h7, h⟩)⟩
theorem s_ia_arr {n off m : Nat} (h1 : tab t = some i) (h2 : i.kd = .arr m e) (h3 : tab e = some ie) (h4 : ev env ix = some (.f (.v (.int k q)))) (h5 : ev env x = some (.ptr n off)) (h6 : 0 ≤ q) (h7 : q < m) (h : K (.ptr n (off + q.toNat * ie.size)) nx H) :
    stepOp P tab env nx H K (.indexAddr t x ix) := ⟨i, e, ie, k, q, h1, h3, h4, h6, .inr (.inr (.inl ⟨n, off, m, h2, h5, h7, h⟩))⟩
theorem s_index {s : ByteArray} {b : UInt8} (h1 : tab t = some i) (h2 : i.kd = .str) (h3 : ev env ix = some (.f (.v (.int k q)))) (h4 : ev env x = some (.f (.v (.string s)))) (h5 : 0 ≤ q) (h6 : s[q.toNat]? = some b) (h : K (.f (.v (.int .u8 b.toNat))) nx H) :
    stepOp P tab env nx H K (.index t x ix) := ⟨i, k, q, s, b, h1, h2, h3, h5, h4, h6, h⟩
end
theorem s_extract {x : Operand} {i : Nat} {xs : List PV} {d : PV} (h1 : ev env x = some (.tup xs)) (h2 : xs[i]? = some d) (h : K d nx H) : stepOp P tab env nx H K (.extract x i) := ⟨xs, d, h1, h2, h⟩

/-! ### Calls -/

theorem ren_bare {τ : Nat → Nat} {r : PV} (hr : has (fun _ => false) r = true) : ren τ r = r := by
  have h1 : ∀ y, has1 (fun _ => false) y = true → ren1 τ y = y := by intro y hy; cases y <;> simp [has1] at hy <;> rfl
  have h1l : ∀ l : List PV, l.all (has1 fun _ => false) = true → l.map (ren1 τ) = l := by
    intro l hl
    induction l with
    | nil => rfl
    | cons x l ih => simp only [List.all_cons, Bool.and_eq_true] at hl; rw [List.map_cons, h1 x hl.1, ih hl.2]
  have h2 : ∀ y, has2 (fun _ => false) y = true → ren2 τ y = y := by
    intro y hy
    cases y <;> simp only [has2, ren2] at hy ⊢ <;> first | rw [h1l _ hy] | exact h1 _ hy
  have h2l : ∀ l : List PV, l.all (has2 fun _ => false) = true → l.map (ren2 τ) = l := by
    intro l hl
    induction l with
    | nil => rfl
    | cons x l ih => simp only [List.all_cons, Bool.and_eq_true] at hl; rw [List.map_cons, h2 x hl.1, ih hl.2]
  cases r <;> simp only [has, ren] at hr ⊢ <;> first | rw [h2l _ hr] | exact h2 _ hr

theorem has_mono {p q : Nat → Bool} (hpq : ∀ n, p n = true → q n = true) {r : PV} (hr : has p r = true) : has q r = true := by
  have h1 : ∀ y, has1 p y = true → has1 q y = true := by intro y hy; cases y <;> simp only [has1] at hy ⊢ <;> first | exact hpq _ hy | exact hy
  have h1l : ∀ l : List PV, l.all (has1 p) = true → l.all (has1 q) = true := by
    intro l hl; rw [List.all_eq_true] at hl ⊢; exact fun x hx => h1 x (hl x hx)
  have h2 : ∀ y, has2 p y = true → has2 q y = true := by
    intro y hy
    cases y <;> simp only [has2] at hy ⊢ <;> first | exact h1l _ hy | exact h1 _ hy
  have h2l : ∀ l : List PV, l.all (has2 p) = true → l.all (has2 q) = true := by
    intro l hl; rw [List.all_eq_true] at hl ⊢; exact fun x hx => h2 x (hl x hx)
  cases r <;> simp only [has] at hr ⊢ <;> first | exact h2l _ hr | exact h2 _ hr

/-- A call that hands over no names and gets none back. -/
theorem s_call {f : Operand} {args : Array Operand} {ts : Array Nat} {g : Nat} {caps ps ps' : List PV} {r : PV} (h1 : ev env f = some (.clo (.func g) caps)) (h2 : evs env args.toList = some ps) (h3 : passes [] H (allArgs ps caps) = (ps', H'))
    (h4 : ps'.all (has fun _ => false) = true) (ht : T P g ps' 0 [] (Ret r 0 [])) (hr : has (fun _ => false) r = true) (h : K r nx H') : stepOp P tab env nx H K (.call { callee := .value f, args := args, argTypes := ts }) := by
  have hren : ∀ τ, ps'.map (ren τ) = ps' := by
    intro τ
    have : ∀ l : List PV, l.all (has fun _ => false) = true → l.map (ren τ) = l := by
      intro l hl
      induction l with
      | nil => rfl
      | cons x l ih => simp only [List.all_cons, Bool.and_eq_true] at hl; rw [List.map_cons, ren_bare hl.1, ih hl.2]
    exact this ps' h4
  refine (⟨g, caps, ps, [], [], h1, h2, ⟨rfl, fun i n h => by simp at h, List.nodup_nil⟩, fun i n h => by simp at h, ?_, rfl, ?_⟩ : stepCall P env H nx K f args.toList)
  · rw [h3]
    rw [List.all_eq_true] at h4 ⊢
    exact fun x hx => has_mono (fun n hn => by cases hn) (h4 x hx)
  · rw [h3]
    simp only [hren, List.length_nil, List.map_nil, mkH]
    refine ht.mono fun r' k' Hr hq => ?_
    obtain ⟨rfl, rfl, rfl⟩ := hq
    refine ⟨⟨fun n o h => by simp at h, fun n o h => by simp at h, has_mono (fun _ _ => rfl) hr⟩, ?_⟩
    rw [ren_bare hr]
    simpa [renH, drops] using h

/-- A call that hands over no names and gets some back. -/
theorem s_callN {f : Operand} {args : Array Operand} {ts : Array Nat} {g : Nat} {caps ps ps' : List PV} {r : PV} {k0 : Nat} {H0 : Heap} (h1 : ev env f = some (.clo (.func g) caps)) (h2 : evs env args.toList = some ps) (h3 : passes [] H (allArgs ps caps) = (ps', H'))
    (h4 : ps'.all (has fun _ => false) = true) (ht : T P g ps' 0 [] (Ret r k0 H0)) (hr : has (fun _ => true) r = true) (hd : Dist H0) (ho : (H0.all fun p => hasO (fun _ => true) p.2) = true) (h : K (ren (fun i => nx + i) r) (nx + k0) (renH (fun i => nx + i) H0 ++ H')) :
    stepOp P tab env nx H K (.call { callee := .value f, args := args, argTypes := ts }) := by
  have hren : ∀ τ, ps'.map (ren τ) = ps' := by
    intro τ
    have : ∀ l : List PV, l.all (has fun _ => false) = true → l.map (ren τ) = l := by
      intro l hl
      induction l with
      | nil => rfl
      | cons x l ih => simp only [List.all_cons, Bool.and_eq_true] at hl; rw [List.map_cons, ren_bare hl.1, ih hl.2]
    exact this ps' h4
  have hsig : sig [] nx = fun i => nx + i := by funext i; simp [sig]
  refine (⟨g, caps, ps, [], [], h1, h2, ⟨rfl, fun i n h => by simp at h, List.nodup_nil⟩, fun i n h => by simp at h, ?_, rfl, ?_⟩ : stepCall P env H nx K f args.toList)
  · rw [h3]
    rw [List.all_eq_true] at h4 ⊢
    exact fun x hx => has_mono (fun n hn => by cases hn) (h4 x hx)
  · rw [h3]
    simp only [hren, List.length_nil, List.map_nil, mkH]
    refine ht.mono fun r' k' Hr hq => ?_
    obtain ⟨rfl, rfl, rfl⟩ := hq
    refine ⟨⟨hd, fun n o h => ?_, hr⟩, ?_⟩
    · have := List.all_eq_true.1 ho _ h; exact this
    · rw [hsig]; simpa [drops] using h

/-- A call that hands over names. -/
theorem s_callR {f : Operand} {args : Array Operand} {ts : Array Nat} {g : Nat} {caps ps : List PV} {r : PV} {k0 : Nat} {H0 : Heap} (ns : List Nat) {os : List Obj} (h1 : ev env f = some (.clo (.func g) caps)) (h2 : evs env args.toList = some ps)
    (h3 : Handed (passes ns H (allArgs ps caps)).2 ns os) (h3' : (ns.all fun n => decide (n < nx)) = true) (h4 : ((passes ns H (allArgs ps caps)).1.all (has fun n => ns.contains n)) = true) (h5 : (os.all (hasO fun n => ns.contains n)) = true)
    (ht : T P g ((passes ns H (allArgs ps caps)).1.map (ren (tau ns))) ns.length (mkH 0 (os.map (renO (tau ns)))) (Ret r k0 H0)) (hr : has (fun _ => true) r = true) (hd : Dist H0) (ho : (H0.all fun p => hasO (fun _ => true) p.2) = true)
    (h : K (ren (sig ns nx) r) (nx + (k0 - ns.length)) (renH (sig ns nx) H0 ++ drops (passes ns H (allArgs ps caps)).2 ns)) : stepOp P tab env nx H K (.call { callee := .value f, args := args, argTypes := ts }) := by
  refine (⟨g, caps, ps, ns, os, h1, h2, h3, fun i n hi => ?_, h4, h5, ?_⟩ : stepCall P env H nx K f args.toList)
  · have := List.all_eq_true.1 h3' n (List.mem_of_getElem? hi); simpa using this
  · refine ht.mono fun r' k' Hr hq => ?_
    obtain ⟨rfl, rfl, rfl⟩ := hq
    exact ⟨⟨hd, fun n o h => List.all_eq_true.1 ho _ h, hr⟩, h⟩
end
end Go.Proofs.YtnajikpdnccilaaGreat.Pv

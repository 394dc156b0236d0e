/- A function as a whole. -/
import Derived.Test.YtnajikpdnccilaaGreatPvQ
set_option linter.unusedVariables false
set_option linter.unusedSimpArgs false
namespace Go.Proofs.YtnajikpdnccilaaGreat.Pv
open Go

section
variable {P : Program} {tab : Tab} {c : Ctx} {nx : Nat} {env : Env} {H H' : Heap}

def argEnv : Nat → List PV → Env
  | _, [] => []
  | i, x :: t => (i, x) :: argEnv (i + 1) t

theorem look_argEnv : ∀ (xs : List PV) (i n : Nat), look (argEnv i xs) n = if i ≤ n then xs[n - i]? else none
  | [], i, n => by simp [argEnv, look]
  | o :: t, i, n => by
    simp only [argEnv, look]
    by_cases h : i = n
    · subst h; simp
    · rw [if_neg h, look_argEnv t (i + 1) n]
      by_cases h2 : i ≤ n
      · rw [if_pos h2, if_pos (by omega)]
        have : n - i = (n - (i + 1)) + 1 := by omega
        rw [this, List.getElem?_cons_succ]
      · rw [if_neg h2, if_neg (by omega)]

/-- What a function hands back. -/
def retL (tab : Tab) (env : Env) (H : Heap) : List ResultVar → List PV → Prop
  | [], xs => xs = []
  | .tmp t :: r, xs => ∃ x ys, look env t = some x ∧ xs = x :: ys ∧ retL tab env H r ys
  | .cell a t :: r, xs => ∃ i n off cs ys, tab t = some i ∧ (i.kd.agg = false → i.size = 1) ∧ look env a = some (.ptr n off) ∧ look H n = some (.obj cs) ∧ off + i.size ≤ cs.length ∧
      xs = (if i.kd.agg then mkAgg ((cs.drop off).take i.size) else (cs.drop off).headD (.f (.v undef))) :: ys ∧ retL tab env H r ys

def packR : List PV → PV
  | [x] => x
  | xs => .tup xs

/-- The load of a variable of its own. -/
theorem load_own (ht : TabOk P tab) {φ : Nat → Phys} {tmps : Array Value} {w : World} (hs : StΦ c nx env H φ tmps w) {t : Nat} {i : TI} {n off : Nat} {cs : List PV} (h1 : tab t = some i) (hsz : i.kd.agg = false → i.size = 1)
    (k2 : look H n = some (.obj cs)) (k3 : off + i.size ≤ cs.length) :
    ∃ u, (loadVar t ⟨(φ n).blk, off, none⟩).run P w = .ok u w ∧ Rep φ nx w (SS c.So φ H) (if i.kd.agg then mkAgg ((cs.drop off).take i.size) else (cs.drop off).headD (.f (.v undef))) u := by
  have hnx := (hs.ok.obj n _ k2).1
  -- as an operation would do it
  let o : Oper := { dst := none, op := .load t (.const (.pointer (some ⟨(φ n).blk, off, none⟩))), type := 0, pos := "", after := #[], guard := none }
  obtain ⟨hnil, arr, ty, a1, a2, a3⟩ := (hs.ok.obj n _ k2).2
  have hrun := run_loadVar ht h1 w (φ n).blk off ((arr.toList.drop off).take i.size) (by simp; omega) (fun j v hj => by
    rw [cell_heap a1]
    simp only [List.getElem?_take, List.getElem?_drop, Array.getElem?_toList] at hj
    split at hj
    · exact hj
    · cases hj) hsz
  refine ⟨_, hrun, ?_⟩
  have hget : ∀ j, off + j < cs.length → ∃ d u, cs[off + j]? = some d ∧ arr[off + j]? = some u ∧ Pv.one u = true ∧ Rep φ nx w (SS c.So φ H) d u := by
    intro j hj
    obtain ⟨u, b1, b2, b3⟩ := a3 (off + j) cs[off + j] (by simp [hj])
    exact ⟨_, u, by simp [hj], b1, b2, b3⟩
  cases hagg : i.kd.agg with
  | true =>
    simp only [if_true]
    refine Rep.mkAgg (by simp; omega) (fun j u hu => ?_) (fun j d u hd hu => ?_)
    · simp only [List.getElem?_toArray, List.getElem?_take, List.getElem?_drop, Array.getElem?_toList] at hu
      split at hu
      · have hj : off + j < cs.length := by omega
        obtain ⟨d', u', b1, b2, b3, b4⟩ := hget j hj
        rw [b2] at hu; cases hu; exact b3
      · cases hu
    · simp only [List.getElem?_toArray, List.getElem?_take, List.getElem?_drop, Array.getElem?_toList] at hu hd
      split at hu
      · rename_i hlt
        rw [if_pos hlt] at hd
        have hj : off + j < cs.length := by omega
        obtain ⟨d', u', b1, b2, b3, b4⟩ := hget j hj
        rw [b1] at hd; rw [b2] at hu; cases hd; cases hu; exact b4
      · cases hu
  | false =>
    have := hsz hagg
    obtain ⟨d', u', b1, b2, b3, b4⟩ := hget 0 (by omega)
    simp only [Nat.add_zero] at b1 b2
    simp only [Bool.false_eq_true, if_false, this]
    rw [list_drop_head b1]
    have : ((arr.toList.drop off).take 1).headD undef = u' := by
      rw [List.headD_eq_head?_getD, List.head?_take, List.head?_drop]
      simp [b2]
    rw [this]; exact b4

def resVal (tmps : Array Value) : ResultVar → Sem Value
  | .tmp t => pure (tmps.getD t undef)
  | .cell a t => do loadVar t (← asAddr (tmps.getD a undef))

theorem run_retL (ht : TabOk P tab) {φ : Nat → Phys} {tmps : Array Value} {w : World} (hs : StΦ c nx env H φ tmps w) : ∀ (rs : List ResultVar) (xs : List PV), retL tab env H rs xs →
    ∃ vs : List Value, (rs.mapM (resVal tmps)).run P w = .ok vs w ∧ vs.length = xs.length ∧ ∀ (i : Nat) x v, xs[i]? = some x → vs[i]? = some v → Rep φ nx w (SS c.So φ H) x v
  | [], xs, h => ⟨[], by simp, by simp only [retL] at h; simp [h], fun i x v _ hv => by simp at hv⟩
  | .tmp t :: r, xs, h => by
    obtain ⟨x, ys, h1, rfl, h2⟩ := h
    obtain ⟨v, k1, k2⟩ := hs.env t x h1
    obtain ⟨vs, g1, g2, g3⟩ := run_retL ht hs r ys h2
    refine ⟨v :: vs, ?_, by simp [g2], fun i y u hy hu => ?_⟩
    · have : (resVal tmps (.tmp t)).run P w = .ok v w := by simp [resVal, Array.getD_eq_getD_getElem?, k1]
      simp only [List.mapM_cons, Sem.run_bind, this, Result.andThen_ok, g1, Sem.run_pure]
    · cases i with
      | zero => simp at hy hu; subst hy; subst hu; exact k2
      | succ i => exact g3 i y u (by simpa using hy) (by simpa using hu)
  | .cell a t :: r, xs, h => by
    obtain ⟨i0, n, off, cs, ys, h1, h2, h3, h4, h5, rfl, h6⟩ := h
    obtain ⟨v, k1, k2⟩ := hs.env a _ h3
    obtain ⟨vs, g1, g2, g3⟩ := run_retL ht hs r ys h6
    obtain ⟨u0, l1, l2⟩ := load_own ht hs h1 h2 h4 h5
    cases k2 with
    | ptr hlt =>
      refine ⟨u0 :: vs, ?_, by simp [g2], fun i y u hy hu => ?_⟩
      · have : (resVal tmps (.cell a t)).run P w = .ok u0 w := by
          simp only [resVal, Array.getD_eq_getD_getElem?, k1, Option.getD_some, asAddr, Sem.run_bind, Sem.run_pure, Result.andThen_ok, l1]
        simp only [List.mapM_cons, Sem.run_bind, this, Result.andThen_ok, g1, Sem.run_pure]
      · cases i with
        | zero => rw [List.getElem?_cons_zero] at hy hu; cases hy; cases hu; exact l2
        | succ i => exact g3 i y u (by simpa using hy) (by simpa using hu)

theorem run_results (ht : TabOk P tab) {φ : Nat → Phys} {tmps : Array Value} {w : World} (hs : StΦ c nx env H φ tmps w) {fn : Func} {xs : List PV} (h : retL tab env H fn.results.toList xs) :
    ∃ v, (results fn tmps).run P w = .ok v w ∧ Rep φ nx w (SS c.So φ H) (packR xs) v := by
  obtain ⟨vs, h1, h2, h3⟩ := run_retL ht hs _ _ h
  have hm : (fn.results.mapM (resVal tmps)).run P w = .ok vs.toArray w := by
    rw [Array.mapM_eq_mapM_toList, Sem.run_map, h1]; rfl
  have hr : results fn tmps = (do let vs ← fn.results.mapM (resVal tmps); pure (if h : vs.size = 1 then vs[0] else .tuple vs)) := by
    unfold results
    congr 1
  refine ⟨if h : vs.toArray.size = 1 then vs.toArray[0] else .tuple vs.toArray, by rw [hr, Sem.run_bind, hm]; rfl, ?_⟩
  match xs, vs, h2, h3 with
  | [x], [v], _, h3 => simpa [packR] using h3 0 x v rfl rfl
  | [], [], _, h3 => exact .tup [] #[] rfl (fun i d u hd => by simp at hd)
  | x :: x2 :: t, v :: v2 :: s, h2, h3 =>
    have : ¬ ((v :: v2 :: s).toArray.size = 1) := by simp
    rw [dif_neg this]
    refine .tup _ _ (by simpa using h2) fun i d u hd hu => h3 i d u hd (by simpa using hu)

/-- At the end of a function: what is handed back, told by names of the caller's counting. -/
def FinOk (tab : Tab) (rs : List ResultVar) (k : Nat) (Q : PV → Nat → Heap → Prop) (env : Env) (H : Heap) : Prop :=
  ∃ xs ps nx1 H1, retL tab env H rs xs ∧ pairsOk k nx1 ps = true ∧ SubHeap ps H1 H ∧ k ≤ nx1 ∧ has (hasP ps) (packR xs) = true ∧ Q (ren (tauP ps) (packR xs)) nx1 H1

theorem T_intro (ht : TabOk P tab) {f : Nat} {fn : Func} {body : Code} {args : List PV} {k : Nat} {Q : PV → Nat → Heap → Prop} (hf : P.funcs[f]? = some fn) (hb : fn.body = some body) (hn : (fn.name == "runtime.NumGoroutine") = false)
    (ha : args.length ≤ fn.ntmps)
    (h : ∀ c : Ctx, c.nt = fn.ntmps → c.k = k → W P c body (argEnv 0 args) k H (fun x env _ H' => x ≠ .exit 0 ∧ (x = .ret ∨ x = .normal) ∧ FinOk tab fn.results.toList k Q env H')) : T P f args k H Q := by
  refine ⟨⟨fn, hf, by rw [hb]; rfl, hn⟩, fun w φ So vals hlow hok hsz hargs => ?_⟩
  let c : Ctx := { w0 := w, So := So, O0 := Own φ H, k := k, φ0 := φ, nt := fn.ntmps, low := hlow }
  refine calls_of_wp hf hb ?_
  have hst : StΦ c k (argEnv 0 args) H φ (vals ++ Array.replicate (fn.ntmps - vals.size) undef) w := by
    refine ⟨hok, fun n pv hk => ?_, Ext.refl _ _, ⟨Nat.le_refl _, fun n _ => rfl⟩, by show (vals ++ Array.replicate (fn.ntmps - vals.size) undef).size = fn.ntmps; simp; omega⟩
    rw [look_argEnv] at hk
    simp only [Nat.zero_le, if_true, Nat.sub_zero] at hk
    have hlt : n < vals.size := by rw [hsz]; exact (List.getElem?_eq_some_iff.1 hk).1
    exact ⟨vals[n], by rw [Array.getElem?_append, if_pos hlt]; simp [hlt], hargs n pv vals[n] hk (by simp [hlt])⟩
  refine Code.wp_mono (fun e a w' hp => ?_) (h c rfl rfl φ _ w hst)
  obtain ⟨x, env', nx', H', φ', rfl, h2, h3, h40, h4, xs, ps, nx1, H1, f1, f2, f3, f4, f5, f6⟩ := hp
  have key : a.defers = [] ∧ ∃ v, (results fn a.tmps).run P w' = .ok v w' ∧ ∃ r k' H' φ' v', Ending.returned v = .returned v' ∧ Q r k' H' ∧ Ok φ' k' So H' w' ∧ Rep φ' k' w' (SS So φ' H') r v' ∧
      Ext w w' (Own φ H) (Own φ' H') ∧ k ≤ k' ∧ ∀ n, n < k → φ' n = φ n := by
    obtain ⟨v, v1, v2⟩ := run_results ht h3 (fn := fn) f1
    obtain ⟨φ1, a1, a2, a3, a4⟩ := h3.ok.renamed f2 f3
    refine ⟨h2, v, v1, _, nx1, H1, φ1, v, rfl, f6, a1, a3 _ v v2 f5, ?_, f4, fun n hn => by rw [a4 n hn]; exact h3.keep.2 n hn⟩
    have e := h3.ext
    exact ⟨e.os, e.tape, e.output, e.size, e.blk, e.cell, fun b off hb ho => e.own b off hb (a2 b off ho)⟩
  rcases h4 with rfl | rfl
  · exact key
  · exact key

/-- A nil slice gets a name. -/
theorem W_adopt {code : Code} {Q : Post} {s sz : Nat} (hl : look env s = some (.f (.v (.slice none 0 0)))) (h : W P c code ((s, .ref nx 0 none) :: env) (nx + 1) ((nx, .buf true sz []) :: H) Q) : W P c code env nx H Q := by
  intro φ tmps w hs
  have h1 := hs.nilbuf true sz
  obtain ⟨v, k1, k2⟩ := h1.env s _ hl
  have hv := k2.v_inv
  subst hv
  refine h _ tmps w ⟨h1.ok, fun n pv hn => ?_, h1.ext, h1.keep, h1.size⟩
  by_cases e : s = n
  · subst e
    rw [look_cons_same] at hn; cases hn
    exact ⟨_, k1, .refnil (Nat.lt_succ_self _) (by rw [upd_same]) (by rw [upd_same]) rfl⟩
  · rw [look_cons_ne _ _ e] at hn
    exact h1.env n pv hn

/-- A buffer is given up: who has it reads it alone. -/
theorem W_freeze {code : Code} {Q : Post} {n sz : Nat} {wr : Bool} {l : List FV} (hl : look H n = some (.buf wr sz l)) (h : W P c code env nx (hput H n (.buf false sz l)) Q) : W P c code env nx H Q :=
  fun φ tmps w hs => h φ tmps w (hs.freeze hl)

/-- A slot that holds a slice of a buffer that is written no more. -/
theorem W_frozen {code : Code} {Q : Post} {s n lo sz : Nat} {hi : Option Nat} {l : List FV} (he : look env s = some (.ref n lo hi)) (hl : look H n = some (.buf false sz l))
    (h : W P c code ((s, .f (.sl sz false (view lo hi l))) :: env) nx H Q) : W P c code env nx H Q := by
  intro φ tmps w hs
  refine h φ tmps w ⟨hs.ok, fun m pv hm => ?_, hs.ext, hs.keep, hs.size⟩
  by_cases e : s = m
  · subst e
    rw [look_cons_same] at hm; cases hm
    obtain ⟨v, k1, k2⟩ := hs.env s _ he
    exact ⟨v, k1, .f (hs.frozen_ref hl k2)⟩
  · rw [look_cons_ne _ _ e] at hm
    exact hs.env m pv hm
end
end Go.Proofs.YtnajikpdnccilaaGreat.Pv

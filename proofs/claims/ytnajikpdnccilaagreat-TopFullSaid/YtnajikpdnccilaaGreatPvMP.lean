/- What one operation does: the ones that leave memory as it is. -/
import Derived.Test.YtnajikpdnccilaaGreatPvMO
set_option linter.unusedVariables false
set_option linter.unusedSimpArgs false
namespace Go.Proofs.YtnajikpdnccilaaGreat.Pv.M
open Go

def tab0 : Tab := fun _ => none
theorem tab0Ok (P : Program) : TabOk P tab0 := fun t i h => by cases h

theorem ofV1_rel (ρ : Nat → Int) (φ : Nat → Ph) (nx : Nat) (x : Value) : Rel ρ φ nx (ofV1 x) x := by
  cases x <;> first | exact .n _ _ | exact .b _ | exact .v _
theorem ofV_rel (ρ : Nat → Int) (φ : Nat → Ph) (nx : Nat) (x : Value) : Rel ρ φ nx (ofV x) x := by
  cases x with
  | agg cs =>
    show Rel ρ φ nx (bi (allB (fun u => u.oneCell') cs.toList) (.agg (mapL ofV1 cs.toList)) (.v (.agg cs))) (.agg cs)
    cases h : allB (fun u : Value => u.oneCell') cs.toList with
    | false => exact .v _
    | true =>
      refine .agg _ _ (by rw [mapL_eq]; simp) (fun i u hu => allB_inv h u (by rw [← Array.getElem?_toList] at hu; exact List.mem_of_getElem? hu)) (fun i c u hc hu => ?_)
      rw [mapL_eq, List.getElem?_map, Array.getElem?_toList, hu] at hc
      cases hc
      exact ofV1_rel ρ φ nx u
  | _ => first | exact .n _ _ | exact .b _ | exact .v _

section
variable {ρ : Nat → Int} {c : Ctx} {nx : Nat} {env : Env} {H : Heap} {φ : Nat → Ph} {tmps : Array Value} {w : World}
theorem ev_rel (h : St ρ c nx env H φ tmps w) {x : Operand} {a : MV} (hx : ev env x = some a) : Rel ρ φ nx a ((act tmps).eval x) := by
  cases x with
  | tmp t =>
    obtain ⟨v, h1, h2⟩ := h.env t a hx
    have : (act tmps).eval (.tmp t) = v := by simp [Act.eval, Array.getD_eq_getD_getElem?, h1]
    rw [this]; exact h2
  | const v =>
    have : some (ofV v) = some a := hx
    cases this; exact ofV_rel ρ φ nx v
  | func f =>
    have : some (MV.clo f [] []) = some a := hx
    cases this; exact .clo f [] [] #[] #[] rfl (by simp) rfl (by simp)
  | global g => cases (show (none : Option MV) = some a from hx)
theorem evs_get : ∀ {xs : List Operand} {ys : List MV}, evs env xs = some ys → ys.length = xs.length ∧ ∀ (i : Nat) y, ys[i]? = some y → ∃ x, xs[i]? = some x ∧ ev env x = some y
  | [], ys, h => by
    have : some ([] : List MV) = some ys := h
    cases this; exact ⟨rfl, by simp⟩
  | x :: xs, ys, h => by
    have h : bo (ev env x) (fun v => bo (evs env xs) fun r => some (v :: r)) = some ys := h
    obtain ⟨v, h1, h2⟩ := bo_some h
    obtain ⟨r, h3, h4⟩ := bo_some h2
    cases h4
    obtain ⟨a, b⟩ := evs_get h3
    refine ⟨by simp [a], fun i y hy => ?_⟩
    cases i with
    | zero => simp at hy; subst hy; exact ⟨x, rfl, h1⟩
    | succ i => simpa using b i y (by simpa using hy)
theorem evs_rel (h : St ρ c nx env H φ tmps w) {xs : Array Operand} {ys : List MV} (hx : evs env xs.toList = some ys) : (xs.map (act tmps).eval).size = ys.length ∧
    ∀ (i : Nat) y u, ys[i]? = some y → (xs.map (act tmps).eval)[i]? = some u → Rel ρ φ nx y u := by
  obtain ⟨a, b⟩ := evs_get hx
  refine ⟨by simp [a], fun i y u hy hu => ?_⟩
  obtain ⟨x, x1, x2⟩ := b i y hy
  have : xs[i]? = some x := by simpa using x1
  simp [this] at hu
  rw [← hu]; exact ev_rel h x2
end

section
variable (ρ : Nat → Int) (P : Program)
/-- One operation, from all that fits: what it leaves. -/
def DoesB (o : Oper) (c : Ctx) (nx : Nat) (env : Env) (H : Heap) (v : MV) (nx' : Nat) (H' : Heap) : Prop :=
  ∀ φ tmps w, St ρ c nx env H φ tmps w → ∀ (next : Act → World → Prop) (Q : Exit → Act → World → Prop),
    (∀ φ' u w', St ρ c nx' env H' φ' tmps w' → Rel ρ φ' nx' v u → (∀ n, n < nx → φ' n = φ n) → nx ≤ nx' → next ((act tmps).put o.dst u) w') → o.wp P (act tmps) w next Q
/-- What a call does. -/
def TB (g : Nat) (args : List MV) (nx : Nat) (H : Heap) (r : MV) (nx' : Nat) (H' : Heap) : Prop :=
  Callable P g ∧ ∀ (w : World) (φ : Nat → Ph) (vals : Array Value), Ok ρ φ nx H w → vals.size = args.length → (∀ (i : Nat) a v, args[i]? = some a → vals[i]? = some v → Rel ρ φ nx a v) →
    Calls P g vals w fun e w' => ∃ φ' v, e = .returned v ∧ Ok ρ φ' nx' H' w' ∧ Rel ρ φ' nx' r v ∧ Ext w w' (Own φ H) (Own φ' H') ∧ nx ≤ nx' ∧ ∀ n, n < nx → φ' n = φ n
/-- Memory as it was, with more laid ahead. -/
def Suf (H H' : Heap) : Prop := ∃ d, H' = d ++ H
def CallOk (call : CallK) : Prop := ∀ {g args nx H} {k : KV}, call g args nx H k = true → ∃ r nx' H', TB ρ P g args nx H r nx' H' ∧ k r nx' H' = true ∧ Suf H H'
/-- An operation's rule is right. -/
def OpOk (f : OpF) (op : Op) : Prop := ∀ {call : CallK} {env nx H} {k : KV}, CallOk ρ P call → f call env nx H k = true →
  ∃ v nx' H', (∀ o c, o.op = op → DoesB ρ P o c nx env H v nx' H') ∧ k v nx' H' = true ∧ Suf H H'
end
section
variable {ρ : Nat → Int} {P : Program} {o : Oper} {c : Ctx} {nx : Nat} {env : Env} {H : Heap}
theorem DoesB.value {v : MV} {nx' : Nat} {H' : Heap} (h : ∀ φ tmps w, St ρ c nx env H φ tmps w → ∃ φ' u w', (execOp (act tmps).eval o).run P w = .ok (.value u) w' ∧ St ρ c nx' env H' φ' tmps w' ∧ Rel ρ φ' nx' v u ∧ (∀ n, n < nx → φ' n = φ n) ∧ nx ≤ nx') :
    DoesB ρ P o c nx env H v nx' H' := by
  intro φ tmps w hs next Q hn
  obtain ⟨φ', u, w', hr, hs', hrel, hφ, hle⟩ := h φ tmps w hs
  unfold Oper.wp
  rw [hr, Oper.upon_value]
  exact hn φ' u w' hs' hrel hφ hle
theorem DoesB.pure {v : MV} (h : ∀ φ tmps w, St ρ c nx env H φ tmps w → ∃ u, (execOp (act tmps).eval o).run P w = .ok (.value u) w ∧ Rel ρ φ nx v u) : DoesB ρ P o c nx env H v nx H :=
  DoesB.value fun φ tmps w hs => by
    obtain ⟨u, h1, h2⟩ := h φ tmps w hs
    exact ⟨φ, u, w, h1, hs, h2, fun _ _ => rfl, Nat.le_refl _⟩
theorem DoesB.skip {nx' : Nat} {H' : Heap} (h : ∀ φ tmps w, St ρ c nx env H φ tmps w → ∃ φ' w', (execOp (act tmps).eval o).run P w = .ok .skip w' ∧ St ρ c nx' env H' φ' tmps w' ∧ (∀ n, n < nx → φ' n = φ n) ∧ nx ≤ nx') :
    DoesB ρ P o c nx env H undefM nx' H' := by
  intro φ tmps w hs next Q hn
  obtain ⟨φ', w', hr, hs', hφ, hle⟩ := h φ tmps w hs
  unfold Oper.wp
  rw [hr, Oper.upon_skip]
  exact hn φ' undef w' hs' (.v undef) hφ hle

/-! ### Types -/
theorem tsize_run {t n : Nat} (h : tsize P t = some n) (w : World) : (sizeOf t).run P w = .ok n w := by
  obtain ⟨i, h1, h2⟩ := Option.map_eq_some_iff.1 h
  simp [sizeOf, typeInfo, h1, h2]
theorem tagg_run {t : Nat} {g : Bool} (h : tagg P t = some g) (w : World) : (isAgg t).run P w = .ok g w := by
  unfold tagg at h
  split at h
  · rename_i hu; cases h; simp [isAgg, run_underlying hu]
  · rename_i hu; cases h; simp [isAgg, run_underlying hu]
  · rename_i d h1 h2 hu
    cases h
    simp only [isAgg, Sem.run_bind, run_underlying hu, Result.andThen_ok]
    cases d <;> first | exact (h1 _ rfl).elim | exact (h2 _ _ rfl).elim | rfl
  · cases h
theorem tvar_some {t : Nat} {s : Nat × Bool} (h : tvar P t = some s) : tsize P t = some s.1 ∧ tagg P t = some s.2 := by
  unfold tvar at h
  split at h
  · rename_i sz h1
    split at h
    · rename_i g h2; cases h; exact ⟨h1, h2⟩
    · cases h
  · cases h
theorem tzero_run {t : Nat} {z : List MV} (h : tzero P t = some z) : ∃ u, (∀ w, (zeroValue t).run P w = .ok u w) ∧ z = u.cells.toList.map ofV1 ∧ ∀ x ∈ u.cells.toList, one x = true := by
  unfold tzero at h
  split at h
  · rename_i i h1
    split at h
    · rename_i u h2
      obtain ⟨h3, h4⟩ := bi_some h
      cases h4
      exact ⟨u, fun w => by simp [zeroValue, typeInfo, h1, h2], mapL_eq _ _, fun x hx => allB_inv h3 x hx⟩
    · cases h
  · cases h
theorem tfield_some {s q : Nat} {r : Nat × Nat × Bool} (h : tfield P s q = some r) : ∃ F f, P.underlying s = some (.struct F) ∧ F[q]? = some f ∧ f.offset = r.1 ∧ tsize P f.type = some r.2.1 ∧ tagg P f.type = some r.2.2 := by
  unfold tfield at h
  split at h
  · rename_i F h1
    split at h
    · rename_i f h2
      split at h
      · rename_i sz h3
        split at h
        · rename_i g h4; cases h; exact ⟨F, f, h1, h2, rfl, h3, h4⟩
        · cases h
      · cases h
    · cases h
  · cases h
theorem telem_some {t n : Nat} (h : telem P t = some n) : ∃ e, P.underlying t = some (.slice e) ∧ tsize P e = some n := by
  unfold telem at h
  split at h
  · rename_i e h1; exact ⟨e, h1, h⟩
  · cases h
theorem tarr_some {t : Nat} {r : Nat × Nat × Bool} (h : tarr P t = some r) : ∃ e, P.underlying t = some (.array r.1 e) ∧ tsize P e = some r.2.1 ∧ tagg P e = some r.2.2 := by
  unfold tarr at h
  split at h
  · rename_i n e h1
    split at h
    · rename_i sz h3
      split at h
      · rename_i g h4; cases h; exact ⟨e, h1, h3, h4⟩
      · cases h
    · cases h
  · cases h

/-! ### Parts of rows of cells -/
/-- Cells, as they are known. -/
def Cells (ρ : Nat → Int) (φ : Nat → Ph) (nx b0 : Nat) (l : List MV) (arr : Array Value) : Prop := ∀ (i : Nat) c, l[i]? = some c → ∃ u, arr[b0 + i]? = some u ∧ one u = true ∧ Rel ρ φ nx c u
theorem asm1_some {sz : Nat} {g : Bool} {l : List MV} {off : Nat} {v : MV} (h : asm1 sz g l off = some v) : (g = false ∧ sz = 1 ∧ l[off]? = some v) ∨ (g = true ∧ ∃ cs, v = .agg cs ∧ cs = (l.drop off).take sz ∧ cs.length = sz ∧ (sz = 0 ∨ off + sz ≤ l.length)) := by
  cases g with
  | false =>
    have h : Bool.rec (motive := fun _ => Option MV) none (nth l off) (Nat.beq sz 1) = some v := h
    cases hb : Nat.beq sz 1 with
    | false => rw [hb] at h; cases h
    | true =>
      rw [hb] at h
      have h : nth l off = some v := h
      rw [nth_eq] at h
      exact .inl ⟨rfl, Nat.eq_of_beq_eq_true hb, h⟩
  | true =>
    have h : bo (cut l off sz) (fun cs => some (.agg cs)) = some v := h
    obtain ⟨cs, h1, h2⟩ := bo_some h
    obtain ⟨a, b, d⟩ := cut_some h1
    cases h2
    exact .inr ⟨rfl, cs, rfl, a, b, d⟩
theorem Cells.agg {φ : Nat → Ph} {b0 : Nat} {l : List MV} {arr : Array Value} (hc : Cells ρ φ nx b0 l arr) {off sz : Nat} (h : sz = 0 ∨ off + sz ≤ l.length) {vs : Array Value} (hv : ∀ j, j < sz → vs[j]? = arr[b0 + (off + j)]?) (hs : vs.size = sz) :
    Rel ρ φ nx (.agg ((l.drop off).take sz)) (.agg vs) := by
  have key : ∀ (i : Nat) u, vs[i]? = some u → ∃ d, l[off + i]? = some d ∧ one u = true ∧ Rel ρ φ nx d u := by
    intro i u hu
    have hi : i < sz := by rw [← hs]; exact (Array.getElem?_eq_some_iff.1 hu).1
    have hlt : off + i < l.length := by omega
    obtain ⟨u', a, b, d⟩ := hc (off + i) l[off + i] (by simp [hlt])
    rw [hv i hi, a] at hu
    cases hu
    exact ⟨_, by simp [hlt], b, d⟩
  refine .agg _ _ (by simp; omega) (fun i u hu => (key i u hu).choose_spec.2.1) (fun i d u hd hu => ?_)
  obtain ⟨d', a, b, e⟩ := key i u hu
  simp only [List.getElem?_take, List.getElem?_drop] at hd
  split at hd
  · rw [a] at hd; cases hd; exact e
  · cases hd
/-- A variable of its own is loaded. -/
theorem load_own {φ : Nat → Ph} {w : World} {n off : Nat} {l : List MV} (hob : ObjOk ρ φ nx w n (.cells l)) {t : Nat} {s : Nat × Bool} (ht : tvar P t = some s) {v : MV} (h : asm1 s.1 s.2 l off = some v) :
    ∃ u, (loadVar t ⟨(φ n).blk, (φ n).base + off, none⟩).run P w = .ok u w ∧ Rel ρ φ nx v u := by
  obtain ⟨t1, t2⟩ := tvar_some ht
  obtain ⟨arr, ty, a1, a2, a3⟩ := hob
  rcases asm1_some h with ⟨g0, s1, h1⟩ | ⟨g1, cs, rfl, h2, h3, h4⟩
  · obtain ⟨u, b1, b2, b3⟩ := a3 off v h1
    refine ⟨u, ?_, b3⟩
    rw [g0] at t2
    simp [loadVar, tagg_run t2, run_load, cell_heap a1, b1]
  · rw [g1] at t2
    by_cases hz : s.1 = 0
    · refine ⟨.agg #[], ?_, ?_⟩
      · simp only [loadVar, Sem.run_bind, tagg_run t2, Result.andThen_ok, if_true, tsize_run t1, hz]
        rfl
      · have : cs = [] := by apply List.eq_nil_of_length_eq_zero; omega
        subst this
        exact .agg [] #[] rfl (by simp) (by simp)
    · have hl : off + s.1 ≤ l.length := by omega
      have hla : (φ n).base + l.length ≤ arr.size := by
        obtain ⟨u, b1, _⟩ := a3 (l.length - 1) l[l.length - 1] (by rw [List.getElem?_eq_getElem (by omega)])
        have := (Array.getElem?_eq_some_iff.1 b1).1
        omega
      have hrun := run_loads (P := P) w (φ n).blk ((φ n).base + off) s.1 ((arr.toList.drop ((φ n).base + off)).take s.1) (by simp; omega) (fun j v hj => by
        rw [cell_heap a1]
        simp only [List.getElem?_take, List.getElem?_drop, Array.getElem?_toList] at hj
        split at hj
        · exact hj
        · cases hj)
      refine ⟨.agg ((arr.toList.drop ((φ n).base + off)).take s.1).toArray, ?_, ?_⟩
      · simp only [loadVar, Sem.run_bind, tagg_run t2, Result.andThen_ok, if_true, tsize_run t1, hrun, Sem.run_pure]
      · rw [h2]
        exact Cells.agg (b0 := (φ n).base) a3 (.inr hl) (fun j hj => by simp [hj, Nat.add_assoc]) (by simp; omega)
theorem ld_inv {t : Nat} {n off : Nat} {κ : MV → Bool} (h : ld P t H n off κ = true) : ∃ l s v, look H n = some (.cells l) ∧ tvar P t = some s ∧ asm1 s.1 s.2 l off = some v ∧ κ v = true := by
  obtain ⟨o, h1, h⟩ := ob_inv h
  obtain ⟨l, rfl, h⟩ := onCells_inv h
  obtain ⟨s, h2, h⟩ := ob_inv h
  obtain ⟨v, h3, h⟩ := ob_inv h
  exact ⟨l, s, v, h1, h2, h3, h⟩

/-! ### Operations -/
theorem oLoad_ok {t : Nat} {x : Operand} : OpOk ρ P (oLoad P t x) (.load t x) := fun {call env nx H k} _ h => by
  obtain ⟨a, h1, h⟩ := ob_inv h
  obtain ⟨n, off, ea, h⟩ := onP_inv h
  obtain ⟨l, s, v, h2, h3, h4, hk⟩ := ld_inv h
  rw [ea] at h1
  refine ⟨v, nx, H, fun o c ho => DoesB.pure fun φ tmps w hs => ?_, hk, ⟨[], rfl⟩⟩
  have hr := ev_rel hs h1
  generalize hv : (act tmps).eval x = u at hr
  cases hr with
  | ptr g1 =>
    obtain ⟨u, u1, u2⟩ := load_own (P := P) (w := w) (hs.ok.obj n _ h2).2 h3 h4
    exact ⟨u, exec_load ho hv u1, u2⟩
theorem oMove_ok {x : Operand} {op : Op} (hop : op = .move x ∨ op = .assign x) : OpOk ρ P (oMove x) op := fun {call env nx H k} _ h => by
  obtain ⟨v, h1, h2⟩ := ob_inv h
  refine ⟨v, nx, H, fun o c ho => DoesB.pure fun φ tmps w hs => ⟨_, ?_, ev_rel hs h1⟩, h2, (by first | exact ⟨[], rfl⟩ | exact ⟨[_], rfl⟩ | exact ⟨[_, _], rfl⟩)⟩
  rcases hop with e | e <;> rw [e] at ho <;> simp [execOp, ho]
theorem oPick_ok {x a b : Operand} : OpOk ρ P (oPick x a b) (.pick x a b) := fun {call env nx H k} _ h => by
  obtain ⟨v, h1, h⟩ := ob_inv h
  have eB : ∀ {φ w tmps c t}, St ρ c nx env H φ tmps w → v = .b t → (act tmps).eval x = .bool t := fun hs e => by
    have := ev_rel hs h1
    rw [e] at this
    generalize (act _).eval x = y at this
    cases this; rfl
  rcases onB_inv h with ⟨e, h⟩ | ⟨e, h⟩
  · obtain ⟨u, h2, h3⟩ := ob_inv h
    exact ⟨u, nx, H, fun o c ho => DoesB.pure fun φ tmps w hs => ⟨_, by simp [execOp, ho, eB hs e, asBool], ev_rel hs h2⟩, h3, (by first | exact ⟨[], rfl⟩ | exact ⟨[_], rfl⟩ | exact ⟨[_, _], rfl⟩)⟩
  · obtain ⟨u, h2, h3⟩ := ob_inv h
    exact ⟨u, nx, H, fun o c ho => DoesB.pure fun φ tmps w hs => ⟨_, by simp [execOp, ho, eB hs e, asBool], ev_rel hs h2⟩, h3, (by first | exact ⟨[], rfl⟩ | exact ⟨[_], rfl⟩ | exact ⟨[_, _], rfl⟩)⟩
theorem oNilCheck_ok {x : Operand} : OpOk ρ P (oNilCheck x) (.nilCheck x) := fun {call env nx H k} _ h => by
  obtain ⟨v, h1, h⟩ := ob_inv h
  obtain ⟨h2, h3⟩ := oc_inv h
  refine ⟨v, nx, H, fun o c ho => DoesB.pure fun φ tmps w hs => ?_, h3, (by first | exact ⟨[], rfl⟩ | exact ⟨[_], rfl⟩ | exact ⟨[_, _], rfl⟩)⟩
  have hr := ev_rel hs h1
  refine ⟨_, ?_, hr⟩
  generalize hv : (act tmps).eval x = u at hr
  cases hr with
  | ptr => simp [execOp, ho, hv]
  | clo => simp [execOp, ho, hv]
  | ifc => simp [execOp, ho, hv]
  | _ => exact absurd h2 (by simp [isP])
theorem oExtract_ok {x : Operand} {i : Nat} : OpOk ρ P (oExtract x i) (.extract x i) := fun {call env nx H k} _ h => by
  obtain ⟨v, h1, h⟩ := ob_inv h
  obtain ⟨l, rfl, h⟩ := onT_inv h
  obtain ⟨d, h2, h3⟩ := ob_inv h
  rw [nth_eq] at h2
  refine ⟨d, nx, H, fun o c ho => DoesB.pure fun φ tmps w hs => ?_, h3, (by first | exact ⟨[], rfl⟩ | exact ⟨[_], rfl⟩ | exact ⟨[_, _], rfl⟩)⟩
  have hr := ev_rel hs h1
  generalize hv : (act tmps).eval x = u at hr
  cases hr with
  | tup _ vs e1 e2 =>
    have hlt : i < vs.size := by rw [e1]; exact (List.getElem?_eq_some_iff.1 h2).1
    exact ⟨vs[i], by simp [execOp, ho, hv, Instr.extract, hlt], e2 i d _ h2 (by simp [hlt])⟩
theorem oMakeFunc_ok {fn : Fn} {a b : Array Operand} : OpOk ρ P (oMakeFunc fn a b) (.makeFunc fn a b) := fun {call env nx H k} _ h => by
  unfold oMakeFunc at h
  split at h
  · rename_i f
    obtain ⟨as, h1, h⟩ := ob_inv h
    obtain ⟨bs, h2, h⟩ := ob_inv h
    refine ⟨_, nx, H, fun o c ho => DoesB.pure fun φ tmps w hs => ?_, h, (by first | exact ⟨[], rfl⟩ | exact ⟨[_], rfl⟩ | exact ⟨[_, _], rfl⟩)⟩
    obtain ⟨a1, a2⟩ := evs_rel hs h1
    obtain ⟨b1, b2⟩ := evs_rel hs h2
    exact ⟨_, by simp [execOp, ho, Instr.makeFunc], .clo f as bs _ _ a1 a2 b1 b2⟩
  · cases h
theorem tconc_run {t : Nat} (h : tconc P t = true) : ∃ d, P.underlying t = some d ∧ ∀ ms, d ≠ .interface ms := by
  unfold tconc at h
  split at h
  · cases h
  · rename_i d h1 h2; exact ⟨_, h2, fun ms e => h1 ms e⟩
  · cases h
theorem oMakeIface_ok {t : Nat} {x : Operand} : OpOk ρ P (oMakeIface P t x) (.makeInterface t x) := fun {call env nx H k} _ h => by
  obtain ⟨h0, h⟩ := oc_inv h
  obtain ⟨v, h1, h⟩ := ob_inv h
  obtain ⟨d, d1, d2⟩ := tconc_run h0
  refine ⟨_, nx, H, fun o c ho => DoesB.pure fun φ tmps w hs => ⟨_, ?_, .ifc t v _ (ev_rel hs h1)⟩, h, (by first | exact ⟨[], rfl⟩ | exact ⟨[_], rfl⟩ | exact ⟨[_, _], rfl⟩)⟩
  simp only [execOp, ho, Instr.makeInterface, Sem.run_bind, run_underlying d1, Result.andThen_ok]
  cases d <;> first | exact absurd rfl (d2 _) | rfl
theorem withOk_rel {φ : Nat → Ph} {ok x : Bool} {v : MV} {u : Value} (h : Rel ρ φ nx v u) : Rel ρ φ nx (withOk ok v x) (if ok then .tuple #[u, .bool x] else u) := by
  cases ok with
  | false => exact h
  | true =>
    refine .tup _ _ rfl fun i d y hd hy => ?_
    match i with
    | 0 => simp at hd hy; subst hd; subst hy; exact h
    | 1 => simp at hd hy; subst hd; subst hy; exact .b x
    | i + 2 => simp at hd
theorem oAssert_ok {x : Operand} {s t : Nat} {ok : Bool} : OpOk ρ P (oAssert P x s t ok) (.typeAssert x s t ok) := fun {call env nx H k} _ h => by
  obtain ⟨h0, h⟩ := oc_inv h
  obtain ⟨a, h1, h⟩ := ob_inv h
  obtain ⟨t', v, rfl, h⟩ := onF_inv h
  obtain ⟨h2, h9⟩ := oc_inv h
  have e := Nat.eq_of_beq_eq_true h2
  obtain ⟨d, d1, d2⟩ := tconc_run h0
  refine ⟨_, nx, H, fun o c ho => DoesB.pure fun φ tmps w hs => ?_, h9, (by first | exact ⟨[], rfl⟩ | exact ⟨[_], rfl⟩ | exact ⟨[_, _], rfl⟩)⟩
  have hr := ev_rel hs h1
  generalize hv : (act tmps).eval x = u at hr
  cases hr with
  | ifc _ _ u hu =>
    refine ⟨_, ?_, withOk_rel hu⟩
    simp only [execOp, ho, Instr.typeAssert, hv, Sem.run_bind, run_underlying d1, Result.andThen_ok]
    cases d <;> first | exact absurd rfl (d2 _) | simp [e]
theorem oFieldAddr_ok {s q : Nat} {x : Operand} : OpOk ρ P (oFieldAddr P s x q) (.fieldAddr s x q) := fun {call env nx H k} _ h => by
  obtain ⟨v, h1, h⟩ := ob_inv h
  obtain ⟨n, off, rfl, h⟩ := onP_inv h
  obtain ⟨r, h2, h⟩ := ob_inv h
  obtain ⟨h3, h⟩ := oc_inv h
  obtain ⟨F, f, f1, f2, f3, f4, f5⟩ := tfield_some h2
  refine ⟨_, nx, H, fun o c ho => DoesB.pure fun φ tmps w hs => ?_, h, (by first | exact ⟨[], rfl⟩ | exact ⟨[_], rfl⟩ | exact ⟨[_, _], rfl⟩)⟩
  have hr := ev_rel hs h1
  generalize hv : (act tmps).eval x = u at hr
  have hne : r.2.1 ≠ 0 := by have := Nat.le_of_ble_eq_true h3; omega
  cases hr with
  | ptr hlt =>
    refine ⟨.pointer (some ⟨(φ n).blk, (φ n).base + (off + r.1), none⟩), ?_, .ptr hlt⟩
    simp only [execOp, ho, Instr.fieldAt, hv, Instr.sureAddr, fieldPlace]
    simp only [Sem.run_bind, run_underlying f1, Result.andThen_ok, f2, Sem.run_pure, tsize_run f4, hne, if_false, f3, add_plain, Nat.add_assoc]
/-- A part of a value that is at hand. -/
theorem part_run {t : Nat} {s : Nat × Bool} (h1 : tsize P t = some s.1) (h2 : tagg P t = some s.2) {φ : Nat → Ph} {cs : List MV} {vs : Array Value} (hr : Rel ρ φ nx (.agg cs) (.agg vs)) {off : Nat} {v : MV} (h : asm1 s.1 s.2 cs off = some v) (w : World) :
    ∃ u, (part t vs off).run P w = .ok u w ∧ Rel ρ φ nx v u := by
  cases hr with
  | agg _ _ e1 e2 e3 =>
    have hc : Cells ρ φ nx 0 cs vs := fun i d hd => by
      have hlt : i < vs.size := by rw [e1]; exact (List.getElem?_eq_some_iff.1 hd).1
      exact ⟨vs[i], by simp [hlt], e2 i _ (by simp [hlt]), e3 i d _ hd (by simp [hlt])⟩
    rcases asm1_some h with ⟨g0, s1, h3⟩ | ⟨g1, ds, rfl, h3, h4, h5⟩
    · obtain ⟨u, b1, b2, b3⟩ := hc off v h3
      rw [g0] at h2
      rw [Nat.zero_add] at b1
      exact ⟨u, by simp [part, tagg_run h2, b1], b3⟩
    · rw [g1] at h2
      refine ⟨.agg (vs.extract off (off + s.1)), ?_, ?_⟩
      · simp only [part, Sem.run_bind, tagg_run h2, Result.andThen_ok, if_true, tsize_run h1, Sem.run_pure]
      · have hsz : (vs.extract off (off + s.1)).size = s.1 := by simp; omega
        rw [h3]
        exact Cells.agg hc h5 (fun j hj => by simp [Array.getElem?_extract, hj]; intro hge; omega) hsz
theorem oField_ok {s q : Nat} {x : Operand} : OpOk ρ P (oField P s x q) (.field s x q) := fun {call env nx H k} _ h => by
  obtain ⟨v, h1, h⟩ := ob_inv h
  obtain ⟨cs, rfl, h⟩ := onA_inv h
  obtain ⟨r, h2, h⟩ := ob_inv h
  obtain ⟨d, h3, h⟩ := ob_inv h
  obtain ⟨F, f, f1, f2, f3, f4, f5⟩ := tfield_some h2
  refine ⟨_, nx, H, fun o c ho => DoesB.pure fun φ tmps w hs => ?_, h, (by first | exact ⟨[], rfl⟩ | exact ⟨[_], rfl⟩ | exact ⟨[_, _], rfl⟩)⟩
  have hr := ev_rel hs h1
  generalize hv : (act tmps).eval x = u at hr
  have hr' := hr
  cases hr' with
  | agg _ vs e1 e2 e3 =>
    obtain ⟨u, u1, u2⟩ := part_run (s := r.2) f4 f5 hr h3 w
    refine ⟨u, ?_, u2⟩
    simp only [execOp, ho, Instr.field, hv]
    simp only [Sem.run_bind, run_underlying f1, Result.andThen_ok, f2, Sem.run_pure, asAgg, f3, u1]
theorem onNat_inv {d : Int} {κ : Nat → Bool} (h : onNat d κ = true) : ∃ n : Nat, d = n ∧ κ n = true := by
  cases d with
  | ofNat n => exact ⟨n, rfl, h⟩
  | negSucc n => cases (show false = true from h)
theorem natM_inv {a : MV} {κ : Nat → Bool} (h : natM a κ = true) : ∃ (k : IntKind) (n : Nat), a = .n k n ∧ κ n = true := by
  obtain ⟨k, c, rfl, h⟩ := onN_inv h
  obtain ⟨n, rfl, h⟩ := onNat_inv h
  exact ⟨k, n, rfl, h⟩
theorem nat_val {φ : Nat → Ph} {k : IntKind} {n : Int} {u : Value} (h : Rel ρ φ nx (.n k n) u) : u = .int k n := by cases h; rfl
theorem idx_inv {a : MV} {m : Nat} {κ : Nat → Bool} (h : idx a m κ = true) : ∃ (k : IntKind) (n : Nat), a = .n k n ∧ n < m ∧ κ n = true := by
  obtain ⟨k, n, rfl, h⟩ := natM_inv h
  obtain ⟨h1, h2⟩ := oc_inv h
  exact ⟨k, n, rfl, Nat.le_of_ble_eq_true h1, h2⟩
theorem oIndexAddr_ok {t : Nat} {x i : Operand} : OpOk ρ P (oIndexAddr P t x i) (.indexAddr t x i) := fun {call env nx H k} _ h => by
  obtain ⟨v, h1, h⟩ := ob_inv h
  obtain ⟨j, h2, h⟩ := ob_inv h
  rcases onS_inv h with ⟨sz, n, off, l, cp, rfl, h⟩ | ⟨n, off, rfl, h⟩ | ⟨u, rfl, h⟩
  · obtain ⟨s, h3, h⟩ := ob_inv h
    obtain ⟨h4, h⟩ := oc_inv h
    obtain ⟨kk, q, rfl, hq, h⟩ := idx_inv h
    have e := Nat.eq_of_beq_eq_true h4
    subst e
    obtain ⟨el, e1, e2⟩ := telem_some h3
    refine ⟨_, nx, H, fun o c ho => DoesB.pure fun φ tmps w hs => ?_, h, (by first | exact ⟨[], rfl⟩ | exact ⟨[_], rfl⟩ | exact ⟨[_, _], rfl⟩)⟩
    have hr := ev_rel hs h1
    have hi := nat_val (ev_rel hs h2)
    generalize hv : (act tmps).eval x = u at hr
    cases hr with
    | sl g1 g2 g3 g4 g5 =>
      rename_i A cc
      have hA := g5 (by omega)
      subst hA
      refine ⟨_, exec_indexAddr ho hi hv (r := .pointer (some ⟨(φ n).blk, (φ n).base + (off + q * s), none⟩)) ?_, .ptr g1⟩
      simp [Instr.indexAt, asIntOf, run_underlying e1, tsize_run e2, add_plain, Nat.add_assoc, show q < l from hq]
  · obtain ⟨r, h3, h⟩ := ob_inv h
    obtain ⟨kk, q, rfl, hq, h⟩ := idx_inv h
    obtain ⟨el, e1, e2, e3⟩ := tarr_some h3
    refine ⟨_, nx, H, fun o c ho => DoesB.pure fun φ tmps w hs => ?_, h, (by first | exact ⟨[], rfl⟩ | exact ⟨[_], rfl⟩ | exact ⟨[_, _], rfl⟩)⟩
    have hr := ev_rel hs h1
    have hi := nat_val (ev_rel hs h2)
    generalize hv : (act tmps).eval x = u at hr
    cases hr with
    | ptr g1 =>
      refine ⟨_, exec_indexAddr ho hi hv (r := .pointer (some ⟨(φ n).blk, (φ n).base + (off + q * r.2.1), none⟩)) ?_, .ptr g1⟩
      simp [Instr.indexAt, asIntOf, run_underlying e1, tsize_run e2, add_plain, Nat.add_assoc, hq, Instr.sureAddr]
  · cases h
theorem oIndex_ok {t : Nat} {x i : Operand} : OpOk ρ P (oIndex P t x i) (.index t x i) := fun {call env nx H k} _ h => by
  obtain ⟨v, h1, h⟩ := ob_inv h
  obtain ⟨j, h2, h⟩ := ob_inv h
  cases v with
  | agg cs =>
    have h : ob (tarr P t) _ = true := h
    obtain ⟨r, h3, h⟩ := ob_inv h
    obtain ⟨kk, q, rfl, hq, h⟩ := idx_inv h
    obtain ⟨d, h4, h⟩ := ob_inv h
    obtain ⟨el, e1, e2, e3⟩ := tarr_some h3
    refine ⟨_, nx, H, fun o c ho => DoesB.pure fun φ tmps w hs => ?_, h, (by first | exact ⟨[], rfl⟩ | exact ⟨[_], rfl⟩ | exact ⟨[_, _], rfl⟩)⟩
    have hr := ev_rel hs h1
    have hi := nat_val (ev_rel hs h2)
    generalize hv : (act tmps).eval x = u at hr
    have hr' := hr
    cases hr' with
    | agg _ vs g1 g2 g3 =>
      obtain ⟨u, u1, u2⟩ := part_run (s := r.2) e2 e3 hr h4 w
      refine ⟨u, ?_, u2⟩
      simp [execOp, ho, Instr.index, hv, hi, asIntOf, run_underlying e1, hq, tsize_run e2, u1]
  | v y => cases y with
   | string s =>
    have h : oc (isStr P t) _ = true := h
    obtain ⟨h3, h⟩ := oc_inv h
    obtain ⟨kk, q, rfl, h⟩ := natM_inv h
    obtain ⟨b, h4, h⟩ := ob_inv h
    rw [nth_eq] at h4
    have hu : P.underlying t = some .string := by
      unfold isStr at h3
      split at h3
      · assumption
      · cases h3
    refine ⟨_, nx, H, fun o c ho => DoesB.pure fun φ tmps w hs => ⟨_, ?_, .n _ _⟩, h, (by first | exact ⟨[], rfl⟩ | exact ⟨[_], rfl⟩ | exact ⟨[_, _], rfl⟩)⟩
    have hi := nat_val (ev_rel hs h2)
    have hx := ev_rel hs h1
    generalize hv : (act tmps).eval x = u at hx
    cases hx
    have hb : s[q]? = some b := by
      simp only [Array.getElem?_toList] at h4
      rw [← h4]
      rfl
    simp [execOp, ho, Instr.index, hv, hi, asIntOf, run_underlying hu, hb]
   | _ => cases h
  | _ => cases h
end
end Go.Proofs.YtnajikpdnccilaaGreat.Pv.M

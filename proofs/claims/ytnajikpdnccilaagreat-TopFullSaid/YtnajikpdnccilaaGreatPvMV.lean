/- Calls; one operation of any kind; rows of operations. -/
import Derived.Test.YtnajikpdnccilaaGreatPvMU
set_option linter.unusedVariables false
set_option linter.unusedSimpArgs false
namespace Go.Proofs.YtnajikpdnccilaaGreat.Pv.M
open Go

section
variable {ρ : Nat → Int} {P : Program} {D : Dm} {o : Oper} {c : Ctx} {nx : Nat} {env : Env} {H : Heap} {φ : Nat → Ph} {tmps : Array Value} {w w' : World}
theorem u1_inv {l : List Operand} {κ : Operand → Bool} (h : u1 l κ = true) : ∃ x, l = [x] ∧ κ x = true := by
  cases l with
  | nil => cases (show false = true from h)
  | cons x t =>
    obtain ⟨h1, h2⟩ := oc_inv (show oc (nilB t) (κ x) = true from h)
    rw [nilB_eq, List.isEmpty_iff] at h1
    exact ⟨x, by rw [h1], h2⟩
theorem u2_inv {l : List Operand} {κ : Operand → Operand → Bool} (h : u2 l κ = true) : ∃ x y, l = [x, y] ∧ κ x y = true := by
  cases l with
  | nil => cases (show false = true from h)
  | cons x t =>
    obtain ⟨y, h1, h2⟩ := u1_inv (show u1 t (κ x) = true from h)
    exact ⟨x, y, by rw [h1], h2⟩
theorem hd_inv {l : List Nat} {t : Nat} (h : hd l = some t) : ∃ r, l = t :: r := by
  cases l with
  | nil => cases (show (none : Option Nat) = some t from h)
  | cons x r => cases (show some x = some t from h); exact ⟨r, rfl⟩
theorem toArr' {α : Type} {a : Array α} {l : List α} (h : a.toList = l) : a = l.toArray := by rw [← h]
theorem call_eta {b : Builtin} {args : Array Operand} {ts : Array Nat} {l : List Operand} {r : List Nat} (h1 : args.toList = l) (h2 : ts.toList = r) : (Op.call { callee := .builtin b, args := args, argTypes := ts }) = .call { callee := .builtin b, args := l.toArray, argTypes := r.toArray } := by
  rw [toArr' h1, toArr' h2]
theorem oBuiltin_ok (hD : OkD D ρ) {b : Builtin} {args : Array Operand} {ts : Array Nat} : OpOk ρ P (oBuiltin P D b args.toList ts.toList) (.call { callee := .builtin b, args := args, argTypes := ts }) := fun {call env nx H k} _ h => by
  unfold oBuiltin at h
  split at h
  · -- len
    obtain ⟨x, e1, h⟩ := u1_inv h
    obtain ⟨t, h1, h⟩ := ob_inv h
    obtain ⟨a, h2, h⟩ := ob_inv h
    obtain ⟨r, e2⟩ := hd_inv h1
    rw [call_eta e1 e2]
    have : ∃ v, k v nx H = true ∧ ∀ (ty : Nat) {φ va w}, Rel ρ φ nx a va → ∃ r', (Builtin.len_ (t :: r).toArray ty #[va]).run P w = .ok r' w ∧ Rel ρ φ nx v r' := by
      rcases onS_inv h with ⟨sz, n, off, l, cp, rfl, h⟩ | ⟨n, off, rfl, h⟩ | ⟨v, rfl, h⟩
      · obtain ⟨s, h2, h⟩ := ob_inv h
        obtain ⟨e, e1, e2⟩ := telem_some h2
        refine ⟨_, h, fun ty {φ va w} hr => ?_⟩
        cases hr
        exact ⟨_, by first | (simp [Builtin.len_, run_underlying e1, goInt]; done) | (simp [Builtin.len_, run_underlying e1, goInt]; rfl), .n _ _⟩
      · cases h
      · have h : lenV P t v (fun v => k v nx H) = true := h
        unfold lenV at h
        split at h
        · obtain ⟨s, h2, h⟩ := ob_inv h
          obtain ⟨e, e1, e2⟩ := telem_some h2
          refine ⟨_, h, fun ty {φ va w} hr => ?_⟩
          cases hr
          exact ⟨_, by first | (simp [Builtin.len_, run_underlying e1, goInt]; done) | (simp [Builtin.len_, run_underlying e1, goInt]; rfl), .n _ _⟩
        · obtain ⟨h3, h⟩ := oc_inv h
          have hu : P.underlying t = some .string := by
            unfold isStr at h3
            split at h3
            · assumption
            · cases h3
          refine ⟨_, h, fun ty {φ va w} hr => ?_⟩
          cases hr
          exact ⟨_, by first | (simp [Builtin.len_, run_underlying hu, goInt]; done) | (simp [Builtin.len_, run_underlying hu, goInt]; rfl), .n _ _⟩
        · cases h
    obtain ⟨v, hk, hv⟩ := this
    refine ⟨v, nx, H, fun o c ho => DoesB.pure fun φ tmps w hs => ?_, hk, ⟨[], rfl⟩⟩
    obtain ⟨r', g1, g2⟩ := hv o.type (w := w) (ev_rel hs h2)
    refine ⟨r', ?_, g2⟩
    simp only [execOp, ho, resolve, invoke, builtin]
    have e3 : #[x].map (act tmps).eval = #[(act tmps).eval x] := by simp
    simp only [Sem.run_bind, Sem.run_pure, Result.andThen_ok, e3, g1]
  · -- append
    obtain ⟨x, y, e1, h⟩ := u2_inv h
    obtain ⟨t, h1, h⟩ := ob_inv h
    obtain ⟨u, h2, h⟩ := ob_inv h
    obtain ⟨a, h3, h⟩ := ob_inv h
    obtain ⟨b, h4, h⟩ := ob_inv h
    obtain ⟨h0, h⟩ := oc_inv h
    have e2 : ts.toList = [t, u] := by
      rw [nth_eq] at h1 h2
      have hz := Nat.eq_of_beq_eq_true h0
      rw [len_eq] at hz
      apply List.ext_getElem?
      intro i
      match i with
      | 0 => exact h1
      | 1 => exact h2
      | i + 2 => rw [List.getElem?_eq_none (by omega)]; rfl
    rw [call_eta e1 e2]
    exact xAppend_ok h3 h4 h
  · -- copy
    obtain ⟨x, y, e1, h⟩ := u2_inv h
    obtain ⟨t, h1, h⟩ := ob_inv h
    obtain ⟨u, h2, h⟩ := ob_inv h
    obtain ⟨a, h3, h⟩ := ob_inv h
    obtain ⟨b, h4, h⟩ := ob_inv h
    obtain ⟨h0, h⟩ := oc_inv h
    have e2 : ts.toList = [t, u] := by
      rw [nth_eq] at h1 h2
      have hz := Nat.eq_of_beq_eq_true h0
      rw [len_eq] at hz
      apply List.ext_getElem?
      intro i
      match i with
      | 0 => exact h1
      | 1 => exact h2
      | i + 2 => rw [List.getElem?_eq_none (by omega)]; rfl
    rw [call_eta e1 e2]
    exact xCopy_ok h3 h4 h
  · -- delete
    obtain ⟨x, y, e1, h⟩ := u2_inv h
    obtain ⟨t, h1, h⟩ := ob_inv h
    obtain ⟨a, h3, h⟩ := ob_inv h
    obtain ⟨b, h4, h⟩ := ob_inv h
    obtain ⟨r, e2⟩ := hd_inv h1
    rw [call_eta e1 e2]
    exact xDelete_ok h3 h4 h
  · -- max
    obtain ⟨as, h1, h⟩ := ob_inv h
    obtain ⟨v, hk, hv⟩ := xMM_ok (P := P) (nx := nx) hD h
    refine ⟨v, nx, H, fun o c ho => DoesB.pure fun φ tmps w hs => ?_, hk, ⟨[], rfl⟩⟩
    obtain ⟨a1, a2⟩ := evs_rel hs h1
    obtain ⟨u0, ut, r, g0, g1, g2⟩ := hv (w := w) (us := (args.map (act tmps).eval).toList) (by simpa using a1) (fun i y u hy hu => a2 i y u hy (by simpa using hu))
    refine ⟨r, ?_, g2⟩
    simp only [execOp, ho, resolve, invoke, builtin, Sem.run_bind, Sem.run_pure, Result.andThen_ok, Builtin.max_, g0]
    simp only [Bool.false_eq_true, if_false] at g1
    rw [g1]; rfl
  · -- min
    obtain ⟨as, h1, h⟩ := ob_inv h
    obtain ⟨v, hk, hv⟩ := xMM_ok (P := P) (nx := nx) hD h
    refine ⟨v, nx, H, fun o c ho => DoesB.pure fun φ tmps w hs => ?_, hk, ⟨[], rfl⟩⟩
    obtain ⟨a1, a2⟩ := evs_rel hs h1
    obtain ⟨u0, ut, r, g0, g1, g2⟩ := hv (w := w) (us := (args.map (act tmps).eval).toList) (by simpa using a1) (fun i y u hy hu => a2 i y u hy (by simpa using hu))
    refine ⟨r, ?_, g2⟩
    simp only [execOp, ho, resolve, invoke, builtin, Sem.run_bind, Sem.run_pure, Result.andThen_ok, Builtin.min_, g0]
    simp only [if_true] at g1
    rw [g1]; rfl
  · cases h
/-! ### Calls -/
theorem exec_callM {f : Operand} {args : Array Operand} {ts : Array Nat} {g : Nat} {xs ys : Array Value} (ho : o.op = .call { callee := .value f, args, argTypes := ts })
    (hf : (act tmps).eval f = .func (.func g) xs ys) (hc : Callable P g) : (execOp (act tmps).eval o).run P w = .ok (.enter g ((xs ++ args.map (act tmps).eval) ++ ys)) w := by
  obtain ⟨fn, h1, h2, h3⟩ := hc
  have hb : fn.body.isNone = false := by cases hq : fn.body <;> simp_all
  simp only [execOp, ho, resolve, hf, Deferred.ofValue]
  simp only [Sem.run_bind, Sem.run_pure, Result.andThen_ok, invoke, callFunc, run_program, h1, h3, hb, Bool.false_eq_true, if_false]
/-- A call, from what the callee does. -/
theorem call_does {g : Nat} {args : List MV} {r : MV} {nx' : Nat} {H' : Heap} (ht : TB ρ P g args nx H r nx' H') (h : ∀ φ tmps w, St ρ c nx env H φ tmps w → ∃ vals, (execOp (act tmps).eval o).run P w = .ok (.enter g vals) w ∧ vals.size = args.length ∧ ∀ (i : Nat) a v, args[i]? = some a → vals[i]? = some v → Rel ρ φ nx a v) :
    DoesB ρ P o c nx env H r nx' H' := by
  intro φ tmps w hs next Q hn
  obtain ⟨vals, h1, h2, h3⟩ := h φ tmps w hs
  unfold Oper.wp
  rw [h1, Oper.upon_enter]
  refine (ht.2 w φ vals hs.ok h2 h3).mono ?_
  rintro e w' ⟨φ', v, rfl, hok, hr, hext, hle, hφ⟩
  exact hn φ' v w' (hs.next hφ hle hok hext) hr hφ hle
theorem app3_get {xs ys zs : Array Value} {as bs cs : List MV} (h1 : xs.size = as.length) (h2 : ys.size = bs.length) (h3 : zs.size = cs.length) {R : MV → Value → Prop} (r1 : ∀ (i : Nat) a v, as[i]? = some a → xs[i]? = some v → R a v) (r2 : ∀ (i : Nat) a v, bs[i]? = some a → ys[i]? = some v → R a v)
    (r3 : ∀ (i : Nat) a v, cs[i]? = some a → zs[i]? = some v → R a v) : ((xs ++ ys) ++ zs).size = (app as (app bs cs)).length ∧ ∀ (i : Nat) a v, (app as (app bs cs))[i]? = some a → ((xs ++ ys) ++ zs)[i]? = some v → R a v := by
  rw [app_eq, app_eq]
  refine ⟨by simp; omega, fun i a v ha hv => ?_⟩
  rw [Array.append_assoc, Array.getElem?_append] at hv
  by_cases hi : i < as.length
  · rw [List.getElem?_append_left hi] at ha
    rw [if_pos (by omega)] at hv
    exact r1 i a v ha hv
  · rw [List.getElem?_append_right (by omega)] at ha
    rw [if_neg (by omega), Array.getElem?_append] at hv
    by_cases hj : i - as.length < bs.length
    · rw [List.getElem?_append_left hj] at ha
      rw [if_pos (by omega)] at hv
      exact r2 _ a v ha (by rw [h1] at hv; exact hv)
    · rw [List.getElem?_append_right (by omega)] at ha
      rw [if_neg (by omega)] at hv
      exact r3 _ a v ha (by rw [h1, h2] at hv; exact hv)
theorem oValue_ok {f : Operand} {args : Array Operand} {ts : Array Nat} : OpOk ρ P (oValue f args.toList) (.call { callee := .value f, args := args, argTypes := ts }) := fun {call env nx H k} hc h => by
  obtain ⟨a, h1, h⟩ := ob_inv h
  obtain ⟨g, first, caps, ea, h⟩ := onC_inv h
  obtain ⟨ps, h2, h⟩ := ob_inv h
  obtain ⟨r, nx', H', ht, hk, hsuf⟩ := hc h
  rw [ea] at h1
  refine ⟨r, nx', H', fun o c ho => call_does ht fun φ tmps w hs => ?_, hk, hsuf⟩
  have hr := ev_rel hs h1
  generalize hv : (act tmps).eval f = v at hr
  cases hr with
  | clo _ _ _ xs ys a1 a2 a3 a4 =>
    obtain ⟨b1, b2⟩ := evs_rel hs h2
    obtain ⟨d1, d2⟩ := app3_get (R := Rel ρ φ nx) a1 b1 a3 a2 b2 a4
    exact ⟨_, exec_callM ho hv ht.1, d1, d2⟩
theorem tmeth_some {t : Nat} {name : String} {m : Nat × Option Nat} (h : tmeth P t name = some m) : ∃ i md pr, P.info? t = some i ∧ i.methods.find? (fun m => m.name == name) = some md ∧ md.path = #[] ∧ md.func = some (m.1, pr) ∧
    ((m.2 = none ∧ ((pr = true ∧ ∃ e, P.underlying t = some (.pointer e)) ∨ (pr = false ∧ ∃ d, P.underlying t = some d ∧ ∀ e, d ≠ .pointer e))) ∨ (∃ e, m.2 = some e ∧ pr = false ∧ P.underlying t = some (.pointer e))) := by
  unfold tmeth at h
  split at h
  · rename_i i hi
    split at h
    · rename_i md hmd
      split at h
      · rename_i hp
        have hp' : md.path = #[] := by rw [toArr' hp]
        have hmd' : i.methods.find? (fun m => m.name == name) = some md := by rw [← hmd]; simp
        split at h
        · rename_i f hf
          split at h
          · rename_i e hu; cases h; exact ⟨i, md, true, hi, hmd', hp', hf, .inl ⟨rfl, .inl ⟨rfl, e, hu⟩⟩⟩
          · cases h
        · rename_i f hf
          split at h
          · rename_i e hu; cases h; exact ⟨i, md, false, hi, hmd', hp', hf, .inr ⟨e, rfl, rfl, hu⟩⟩
          · rename_i d hne hu; cases h; exact ⟨i, md, false, hi, hmd', hp', hf, .inl ⟨rfl, .inr ⟨rfl, d, hu, fun e he => hne e he⟩⟩⟩
          · cases h
        · cases h
      · cases h
    · cases h
  · cases h
theorem exec_invokeM {x : Operand} {name : String} {args : Array Operand} {ts : Array Nat} {t g : Nat} {v u : Value} (ho : o.op = .call { callee := .invoke x name, args, argTypes := ts }) (hx : (act tmps).eval x = .iface t v)
    (hm : ∀ fuel, (method (fuel + 1) t v name).run P w = .ok (g, u) w) (hc : Callable P g) : (execOp (act tmps).eval o).run P w = .ok (.enter g (#[u] ++ args.map (act tmps).eval)) w := by
  obtain ⟨fn, h1, h2, h3⟩ := hc
  have hb : fn.body.isNone = false := by cases hq : fn.body <;> simp_all
  have hd : P.types.size + Made.depth = (P.types.size + 99) + 1 := rfl
  simp only [execOp, ho, resolve]
  simp only [Sem.run_bind, Sem.run_pure, Result.andThen_ok, invoke, hx]
  have e1 : (#[Value.iface t v] ++ args.map (act tmps).eval)[0]? = some (.iface t v) := by rw [Array.getElem?_append, if_pos (by simp)]; rfl
  have e2 : (#[Value.iface t v] ++ args.map (act tmps).eval).extract 1 (#[Value.iface t v] ++ args.map (act tmps).eval).size = args.map (act tmps).eval := by
    apply Array.ext'
    simp
    exact List.take_of_length_le (by simp)
  simp only [e1, callMethod, Sem.run_bind, run_program, Result.andThen_ok, hd, hm]
  rw [e2]
  simp only [callFunc, Sem.run_bind, run_program, Result.andThen_ok, h1, h3, hb, Bool.false_eq_true, if_false, Sem.run_pure]
theorem oInvoke_ok {x : Operand} {name : String} {args : Array Operand} {ts : Array Nat} : OpOk ρ P (oInvoke P x name args.toList) (.call { callee := .invoke x name, args := args, argTypes := ts }) := fun {call env nx H k} hc h => by
  obtain ⟨a, h1, h⟩ := ob_inv h
  obtain ⟨t, v, ea, h⟩ := onF_inv h
  obtain ⟨m, h2, h⟩ := ob_inv h
  obtain ⟨ps, h3, h⟩ := ob_inv h
  rw [ea] at h1
  obtain ⟨i, md, pr, hi, hmd, hp, hf, hcase⟩ := tmeth_some h2
  have args_ok : ∀ {φ tmps w} {c : Ctx} {r : MV} {u : Value}, St ρ c nx env H φ tmps w → Rel ρ φ nx r u → (#[u] ++ args.map (act tmps).eval).size = (r :: ps).length ∧ ∀ (i : Nat) a v, (r :: ps)[i]? = some a → (#[u] ++ args.map (act tmps).eval)[i]? = some v → Rel ρ φ nx a v := by
    intro φ tmps w c r u hs hr
    obtain ⟨b1, b2⟩ := evs_rel hs h3
    refine ⟨by simp at b1 ⊢; omega, fun i a v ha hv => ?_⟩
    rw [Array.getElem?_append] at hv
    cases i with
    | zero => simp at ha hv; subst ha; subst hv; exact hr
    | succ i =>
      simp only [List.getElem?_cons_succ] at ha
      rw [if_neg (by simp)] at hv
      exact b2 i a v ha (by simpa using hv)
  rcases hcase with ⟨e0, hpr⟩ | ⟨e, e0, rfl, hu⟩
  · rw [e0] at h
    obtain ⟨r, nx', H', ht, hk, hsuf⟩ := hc (show call m.1 (v :: ps) nx H k = true from h)
    refine ⟨r, nx', H', fun o c ho => call_does ht fun φ tmps w hs => ?_, hk, hsuf⟩
    have hr := ev_rel hs h1
    generalize hv : (act tmps).eval x = y at hr
    cases hr with
    | ifc _ _ u hu =>
      obtain ⟨a1, a2⟩ := args_ok hs hu
      refine ⟨_, exec_invokeM ho hv (fun fuel => ?_) ht.1, a1, a2⟩
      unfold method
      simp only [Sem.run_bind, typeInfo, run_program, Result.andThen_ok, hi, Sem.run_pure, hmd, hp, follow, hf]
      rcases hpr with ⟨rfl, e, hu'⟩ | ⟨rfl, d, hu', hne⟩
      · simp [follow, receiverAt, run_underlying hu', Place.get]
      · simp only [follow, Sem.run_pure, Result.andThen_ok, receiverAt, Sem.run_bind, run_underlying hu']
        cases d <;> first | exact absurd rfl (hne _) | simp [Place.get]
  · rw [e0] at h
    obtain ⟨n, off, ev', h⟩ := onP_inv (show onP v _ = true from h)
    obtain ⟨l, s, u, l1, l2, l3, h⟩ := ld_inv h
    obtain ⟨r, nx', H', ht, hk, hsuf⟩ := hc h
    refine ⟨r, nx', H', fun o c ho => call_does ht fun φ tmps w hs => ?_, hk, hsuf⟩
    have hr := ev_rel hs h1
    rw [ev'] at hr
    generalize hv : (act tmps).eval x = y at hr
    cases hr with
    | ifc _ _ y hy =>
      cases hy with
      | ptr hlt =>
        obtain ⟨uu, q1, q2⟩ := load_own (P := P) (w := w) (hs.ok.obj n _ l1).2 l2 l3
        obtain ⟨a1, a2⟩ := args_ok hs q2
        refine ⟨_, exec_invokeM ho hv (fun fuel => ?_) ht.1, a1, a2⟩
        unfold method
        simp only [Sem.run_bind, typeInfo, run_program, Result.andThen_ok, hi, Sem.run_pure, hmd, hp, follow, hf]
        have hw : ∀ (a : Addr) (nm : String), Builtin.ssaWrapNilChk_ #[t] t #[.pointer (some a), strVal "", strVal nm] = pure (.pointer (some a)) := fun _ _ => rfl
        simp only [follow, receiverAt, Sem.run_bind, Sem.run_pure, Result.andThen_ok, run_underlying hu, Place.get, hw, asAddr, q1]
        simp only [show (#[] : Array FieldStep).isEmpty = true from rfl, if_true, Sem.run_bind, Sem.run_pure, Result.andThen_ok, q1]
theorem oCall_ok (hD : OkD D ρ) {cl : Call} : OpOk ρ P (oCall P D cl) (.call cl) := by
  obtain ⟨callee, args, ts⟩ := cl
  cases callee with
  | value f => exact oValue_ok
  | invoke x name => exact oInvoke_ok
  | builtin b => exact oBuiltin_ok hD
theorem oNo_ok {op : Op} : OpOk ρ P oNo op := fun {call env nx H k} _ h => by cases (show false = true from h)
/-- One operation, of whatever kind. -/
theorem oOp_ok (hD : OkD D ρ) (op : Op) : OpOk ρ P (oOp P D op) op := by
  cases op with
  | move x => exact oMove_ok (.inl rfl)
  | assign x => exact oMove_ok (.inr rfl)
  | pick c a b => exact oPick_ok
  | alloc t => exact oAlloc_ok
  | box t x => exact oBox_ok
  | build t ps => exact oBuild_ok
  | buildSlice t n ps => exact oBuildSlice_ok
  | insert t m k v => exact oMapUpdate_ok (.inr rfl)
  | load t x => exact oLoad_ok
  | store t x y => exact oStore_ok
  | nilCheck x => exact oNilCheck_ok
  | binOp op t x y u => exact oBin_ok hD
  | unOp op t x => exact oUn_ok
  | convert s t x => exact oConv_ok hD
  | makeInterface t x => exact oMakeIface_ok
  | makeFunc fn a b => exact oMakeFunc_ok
  | makeMap t r => exact oMakeMap_ok
  | makeSlice t x y => exact oMakeSlice_ok
  | slice t x lo hi mx => exact oSlice_ok
  | fieldAddr s x q => exact oFieldAddr_ok
  | field s x q => exact oField_ok
  | indexAddr t x i => exact oIndexAddr_ok
  | index t x i => exact oIndex_ok
  | lookup t x k ok => exact oLookup_ok
  | mapUpdate t m k v => exact oMapUpdate_ok (.inl rfl)
  | typeAssert x s t ok => exact oAssert_ok
  | extract x i => exact oExtract_ok
  | call cl => exact oCall_ok hD
  | _ => exact oNo_ok
end
end Go.Proofs.YtnajikpdnccilaaGreat.Pv.M

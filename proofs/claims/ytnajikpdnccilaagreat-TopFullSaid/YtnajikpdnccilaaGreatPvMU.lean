/- What one operation does: copy, maps, calls; one operation of any kind. -/
import Derived.Test.YtnajikpdnccilaaGreatPvMT
set_option linter.unusedVariables false
set_option linter.unusedSimpArgs false
namespace Go.Proofs.YtnajikpdnccilaaGreat.Pv.M
open Go

section
variable {ρ : Nat → Int} {P : Program} {D : Dm} {o : Oper} {c : Ctx} {nx : Nat} {env : Env} {H : Heap} {φ : Nat → Ph} {tmps : Array Value} {w w' : World}
theorem xCopy_ok {t u : Nat} {s x : Operand} {a b : MV} {k : KV} (ha : ev env s = some a) (hb : ev env x = some b) (h : xCopy P t a b nx H k = true) :
    ∃ v nx' H', (∀ o c, o.op = .call { callee := .builtin .copy, args := #[s, x], argTypes := #[t, u] } → DoesB ρ P o c nx env H v nx' H') ∧ k v nx' H' = true ∧ Suf H H' := by
  obtain ⟨sz, h1, h⟩ := ob_inv h
  obtain ⟨h2, h⟩ := oc_inv h
  have hpos := Nat.le_of_ble_eq_true h2
  obtain ⟨e, hu, hsz⟩ := telem_some h1
  rcases onS_inv h with ⟨s', n, off, l, cp, rfl, h⟩ | ⟨n, off, rfl, h⟩ | ⟨v, rfl, h⟩
  · obtain ⟨h3, h⟩ := oc_inv h
    have es := Nat.eq_of_beq_eq_true h3
    subst es
    obtain ⟨new, m, h, n1, nsh, nn⟩ := row_ok (ρ := ρ) (P := P) (nx := nx) (env := env) h
    obtain ⟨new2, h4, h⟩ := ob_inv h
    obtain ⟨l1, l2, h5, h6, hk⟩ := st_inv h
    rw [len_eq] at h4
    obtain ⟨t1, t2⟩ := takeN_some h4
    have hmin : Nat.min new.length (Nat.mul l s') = Nat.min m l * s' := by
      rw [n1]
      show min (m * s') (l * s') = min m l * s'
      rcases Nat.le_total m l with hml | hml
      · rw [Nat.min_eq_left hml, Nat.min_eq_left (Nat.mul_le_mul_right s' hml)]
      · rw [Nat.min_eq_right hml, Nat.min_eq_right (Nat.mul_le_mul_right s' hml)]
    rw [hmin] at t1 t2
    have hq : Nat.min m l ≤ m := Nat.min_le_left m l
    have n2 : new2.length = Nat.min m l * s' := by rw [t1, List.length_take]; omega
    have hdiv : Nat.div (len new2) s' = Nat.min m l := by rw [len_eq, n2]; exact Nat.mul_div_cancel _ (by omega)
    rw [hdiv] at hk
    refine ⟨_, _, _, fun o c hop => DoesB.value fun φ tmps w hs => ?_, hk, (by first | exact ⟨[], rfl⟩ | exact ⟨[_], rfl⟩ | exact ⟨[_, _], rfl⟩)⟩
    obtain ⟨news, q1, q2⟩ := nn hs (ev_rel hs hb)
    have hr := ev_rel hs ha
    generalize hv : (act tmps).eval s = v at hr
    cases hr with
    | sl g1 g2 g3 g4 g5 =>
      rename_i A cc
      have hnl : (news.take (Nat.min m l * s')).length = new2.length := by
        rw [List.length_take, q1.length, n2]
        have := Nat.mul_le_mul_right s' hq
        omega
      have hc2 : Cells ρ φ nx 0 new2 (news.take (Nat.min m l * s')).toArray := by
        intro i d hd
        have hi : i < Nat.min m l * s' := by rw [← n2]; exact (List.getElem?_eq_some_iff.1 hd).1
        rw [t1, List.getElem?_take, if_pos hi] at hd
        obtain ⟨u', b1, b2, b3⟩ := q2 i d hd
        refine ⟨u', ?_, b2, b3⟩
        rw [Nat.zero_add] at b1 ⊢
        rw [List.getElem?_toArray] at b1 ⊢
        rw [List.getElem?_take, if_pos hi]; exact b1
      obtain ⟨w', k1, k2⟩ := hs.laid (P := P) h5 h6 hnl hc2
      have hst : (storeCells A (news.take (Nat.min m l * s')) 0).run P w = .ok () w' := by
        by_cases hz : Nat.min m l * s' = 0
        · rw [hz] at k1 ⊢
          simp only [List.take_zero, storeCells] at k1 ⊢
          exact k1
        · have hcc : cc ≠ 0 := by
            intro h0; subst h0
            have : l = 0 := by omega
            subst this
            simp at hz
          rw [g5 hcc]; exact k1
      refine ⟨φ, _, w', exec_copy hop hv rfl ?_, k2, .n _ _, fun _ _ => rfl, Nat.le_refl _⟩
      simp [Builtin.copy_, run_underlying hu, q1.len, tsize_run hsz, q1.cells (Nat.min m l) w hq (fun _ _ => rfl), hst, goInt]
  · cases h
  · cases h
/-! ### Maps -/
def EntsRel (ρ : Nat → Int) (φ : Nat → Ph) (nx : Nat) (es : List (MV × MV)) (l : List MapEntry) : Prop := l.length = es.length ∧ ∀ (i : Nat) e, es[i]? = some e → ∃ m, l[i]? = some m ∧ Rel ρ φ nx e.1 m.key ∧ Rel ρ φ nx e.2 m.val
theorem EntsRel.cons {e : MV × MV} {es : List (MV × MV)} {l : List MapEntry} (h : EntsRel ρ φ nx (e :: es) l) : ∃ m l', l = m :: l' ∧ Rel ρ φ nx e.1 m.key ∧ Rel ρ φ nx e.2 m.val ∧ EntsRel ρ φ nx es l' := by
  obtain ⟨h1, h2⟩ := h
  cases l with
  | nil => simp at h1
  | cons m l' =>
    obtain ⟨m', a, b, d⟩ := h2 0 e rfl
    simp at a; subst a
    exact ⟨m, l', rfl, b, d, by simpa using h1, fun i x hx => by have := h2 (i + 1) x (by simpa using hx); simpa using this⟩
theorem findNow_step {kd j i' : IntKind} {k c : Int} {m : MapEntry} {l : List MapEntry} {i : Nat} (hm : m.key = .int i' c) (hj : j = i') : Instr.findNow (.int kd) (.int j k) (m :: l) i = if k = c then some (some (i, m.val)) else Instr.findNow (.int kd) (.int j k) l (i + 1) := by
  subst hj
  show (match Instr.sameNow (.int kd) (.int j k) m.key with
    | some true => some (some (i, m.val))
    | some false => Instr.findNow (.int kd) (.int j k) l (i + 1)
    | none => none) = _
  rw [hm]
  by_cases h : k = c
  · subst h; simp [Instr.sameNow]
  · have : (k == c) = false := by simpa using h
    simp only [Instr.sameNow, if_true, this, if_neg h]
theorem key_step {kk : Nat} {j : IntKind} {e : MV × MV} {t f : Bool} (h : (onN e.1 fun i c => oc (keq i j) (ow (ieq c (.ofNat kk)) t f)) = true) : ∃ c : Int, e.1 = .n j c ∧ ((c = kk ∧ t = true) ∨ (c ≠ kk ∧ f = true)) := by
  obtain ⟨i, c, e1, h5⟩ := onN_inv h
  obtain ⟨h1, h6⟩ := oc_inv h5
  rw [keq_inv h1] at e1
  refine ⟨c, e1, ?_⟩
  rcases ow_inv h6 with ⟨h2, h7⟩ | ⟨h2, h7⟩
  · rw [ieq_eq] at h2; exact .inl ⟨of_decide_eq_true h2, h7⟩
  · rw [ieq_eq] at h2; exact .inr ⟨of_decide_eq_false h2, h7⟩
theorem mget_ok {kd j : IntKind} {k : Nat} : ∀ {es : List (MV × MV)} {κ : Option MV → Bool}, mget k j es κ = true → ∃ r, κ r = true ∧ ∀ {φ} {l : List MapEntry} (i : Nat), EntsRel ρ φ nx es l →
    (r = none ∧ Instr.findNow (.int kd) (.int j k) l i = some none) ∨ ∃ v q u, r = some v ∧ Instr.findNow (.int kd) (.int j k) l i = some (some (q, u)) ∧ Rel ρ φ nx v u
  | [], κ, h => ⟨none, h, fun {φ l} i hl => .inl ⟨rfl, by
      have : l = [] := List.length_eq_zero_iff.1 hl.1
      subst this; rfl⟩⟩
  | e :: es, κ, h => by
    obtain ⟨c, e1, ⟨e2, h⟩ | ⟨e2, h⟩⟩ := key_step (show (onN e.1 fun i c => oc (keq i j) (ow (ieq c (.ofNat k)) (κ (some e.2)) (mget k j es κ))) = true from h)
    · refine ⟨_, h, fun {φ l} i hl => ?_⟩
      obtain ⟨m, l', rfl, g1, g2, g3⟩ := hl.cons
      rw [e1] at g1
      have hk := nat_val g1
      exact .inr ⟨e.2, i, m.val, rfl, by rw [findNow_step hk rfl, if_pos e2.symm], g2⟩
    · obtain ⟨r, r1, r2⟩ := mget_ok (kd := kd) h
      refine ⟨r, r1, fun {φ l} i hl => ?_⟩
      obtain ⟨m, l', rfl, g1, g2, g3⟩ := hl.cons
      rw [e1] at g1
      have hk := nat_val g1
      rw [findNow_step hk rfl, if_neg (fun e => e2 e.symm)]
      exact r2 (i + 1) g3
/-- Where a key is, if it is anywhere. -/
def Found (ρ : Nat → Int) (nx : Nat) (kd j : IntKind) (k : Nat) (es : List (MV × MV)) (q : Option Nat) : Prop := match q with
  | none => ∀ {φ} {l : List MapEntry} (i : Nat), EntsRel ρ φ nx es l → Instr.findNow (.int kd) (.int j k) l i = some none
  | some q => (∃ e, es[q]? = some e ∧ e.1 = .n j k) ∧ ∀ {φ} {l : List MapEntry} (i : Nat), EntsRel ρ φ nx es l → ∃ u, Instr.findNow (.int kd) (.int j k) l i = some (some (i + q, u))
theorem Found.nil {kd j : IntKind} {k : Nat} : Found ρ nx kd j k [] none := fun {φ l} i hl => by
  have : l = [] := List.length_eq_zero_iff.1 hl.1
  subst this; rfl
theorem Found.here {kd j : IntKind} {k : Nat} {e : MV × MV} {es : List (MV × MV)} (e1 : e.1 = .n j k) : Found ρ nx kd j k (e :: es) (some 0) := by
  refine ⟨⟨e, rfl, e1⟩, fun {φ l} i hl => ?_⟩
  obtain ⟨m, l', rfl, g1, g2, g3⟩ := hl.cons
  rw [e1] at g1
  exact ⟨m.val, by rw [findNow_step (nat_val g1) rfl, if_pos rfl]; rfl⟩
theorem Found.there {kd j : IntKind} {k : Nat} {e : MV × MV} {es : List (MV × MV)} {c : Int} (e1 : e.1 = .n j c) (e2 : c ≠ k) {q : Option Nat} (h : Found ρ nx kd j k es q) : Found ρ nx kd j k (e :: es) (q.map (· + 1)) := by
  cases q with
  | none =>
    intro φ l i hl
    obtain ⟨m, l', rfl, g1, g2, g3⟩ := hl.cons
    rw [e1] at g1
    rw [findNow_step (nat_val g1) rfl, if_neg (fun e => e2 e.symm)]
    exact h (i + 1) g3
  | some q =>
    obtain ⟨⟨e', h1, h2⟩, h3⟩ := h
    refine ⟨⟨e', by simpa using h1, h2⟩, fun {φ l} i hl => ?_⟩
    obtain ⟨m, l', rfl, g1, g2, g3⟩ := hl.cons
    rw [e1] at g1
    obtain ⟨u, hu⟩ := h3 (i + 1) g3
    exact ⟨u, by rw [findNow_step (nat_val g1) rfl, if_neg (fun e => e2 e.symm), hu, show i + 1 + q = i + (q + 1) by omega]⟩
theorem mset_ok {kd j : IntKind} {k : Nat} {v : MV} : ∀ {es : List (MV × MV)} {κ : List (MV × MV) → Bool}, mset k j v es κ = true → ∃ es' q, κ es' = true ∧ Found ρ nx kd j k es q ∧ es' = (match q with | none => es ++ [(.n j k, v)] | some q => es.set q (.n j k, v))
  | [], κ, h => ⟨_, none, h, Found.nil, rfl⟩
  | e :: es, κ, h => by
    obtain ⟨c, e1, ⟨e2, h⟩ | ⟨e2, h⟩⟩ := key_step (show (onN e.1 fun i c => oc (keq i j) (ow (ieq c (.ofNat k)) (κ ((.n j (.ofNat k), v) :: es)) (mset k j v es fun r => κ (e :: r)))) = true from h)
    · exact ⟨_, some 0, h, Found.here (by rw [e1, e2]), rfl⟩
    · obtain ⟨es', q, h1, h2, h3⟩ := mset_ok (kd := kd) h
      refine ⟨_, q.map (· + 1), h1, Found.there e1 e2 h2, ?_⟩
      cases q <;> simp [h3]
theorem mdel_ok {kd j : IntKind} {k : Nat} : ∀ {es : List (MV × MV)} {κ : List (MV × MV) → Bool}, mdel k j es κ = true → ∃ es' q, κ es' = true ∧ Found ρ nx kd j k es q ∧ es' = (match q with | none => es | some q => es.eraseIdx q)
  | [], κ, h => ⟨_, none, h, Found.nil, rfl⟩
  | e :: es, κ, h => by
    obtain ⟨c, e1, ⟨e2, h⟩ | ⟨e2, h⟩⟩ := key_step (show (onN e.1 fun i c => oc (keq i j) (ow (ieq c (.ofNat k)) (κ es) (mdel k j es fun r => κ (e :: r)))) = true from h)
    · exact ⟨_, some 0, h, Found.here (by rw [e1, e2]), rfl⟩
    · obtain ⟨es', q, h1, h2, h3⟩ := mdel_ok (kd := kd) h
      refine ⟨_, q.map (· + 1), h1, Found.there e1 e2 h2, ?_⟩
      cases q <;> simp [h3]
theorem onKey_inv {a : MV} {κ : IntKind → Nat → Bool} (h : onKey a κ = true) : ∃ (j : IntKind) (n : Nat), a = .n j n ∧ κ j n = true := by
  obtain ⟨j, c, rfl, h⟩ := onN_inv h
  obtain ⟨n, rfl, h⟩ := onNat_inv h
  exact ⟨j, n, rfl, h⟩
theorem tmap_some {t : Nat} {r : IntKind × Nat} (h : tmap P t = some r) : ∃ kt, P.underlying t = some (.map kt r.2) ∧ P.underlying kt = some (.int r.1) := by
  unfold tmap at h
  split at h
  · rename_i k e hu
    split at h
    · rename_i d hk; cases h; exact ⟨k, hu, hk⟩
    · cases h
  · cases h
theorem oMakeMap_ok {t : Nat} {x : Option Operand} : OpOk ρ P (oMakeMap t x) (.makeMap t x) := fun {call env nx H k} _ h => by
  unfold oMakeMap at h
  split at h
  · refine ⟨_, _, _, fun o c ho => DoesB.value fun φ tmps w hs => ?_, h, (by first | exact ⟨[], rfl⟩ | exact ⟨[_], rfl⟩ | exact ⟨[_, _], rfl⟩)⟩
    have hw : St ρ c (nx + 1) env ((nx, .map []) :: H) (updM φ nx ⟨w.heap.size, 0, 0⟩) tmps (w.alloc (.map #[] 0)) := by
      refine hs.push rfl rfl rfl rfl rfl ⟨#[], 0, ?_, rfl, fun i e he => by simp at he⟩
      rw [updM_same]; exact heap_alloc_new w _
    refine ⟨_, .map (some w.heap.size), _, ?_, hw, ?_, upd_old, Nat.le_succ _⟩
    · simp [execOp, ho, Instr.makeMap]
    · have := Rel.mp (ρ := ρ) (φ := updM φ nx ⟨w.heap.size, 0, 0⟩) (nx := nx + 1) (Nat.lt_succ_self nx)
      rw [updM_same] at this
      exact this
  · cases h
theorem ents_of {n : Nat} {es : List (MV × MV)} (h : ObjOk ρ φ nx w n (.map es)) : ∃ ents clock, w.heap[(φ n).blk]? = some (.map ents clock) ∧ EntsRel ρ φ nx es ents.toList := by
  obtain ⟨ents, clock, g1, g2, g3⟩ := h
  exact ⟨ents, clock, g1, by simpa using g2, fun i e he => by obtain ⟨m, a, b⟩ := g3 i e he; exact ⟨m, by simpa using a, b⟩⟩
theorem ents_to {n : Nat} {es : List (MV × MV)} {ents : Array MapEntry} {clock : Nat} (g1 : w.heap[(φ n).blk]? = some (.map ents clock)) (g2 : EntsRel ρ φ nx es ents.toList) : ObjOk ρ φ nx w n (.map es) :=
  ⟨ents, clock, g1, by simpa using g2.1, fun i e he => by obtain ⟨m, a, b⟩ := g2.2 i e he; exact ⟨m, by simpa using a, b⟩⟩
theorem oLookup_ok {t : Nat} {x y : Operand} {ok : Bool} : OpOk ρ P (oLookup P t x y ok) (.lookup t x y ok) := fun {call env nx H k} _ h => by
  obtain ⟨a, h1, h⟩ := ob_inv h
  obtain ⟨n, ea, h⟩ := onM_inv h
  obtain ⟨b, h2, h⟩ := ob_inv h
  obtain ⟨j, q, eb, h⟩ := onKey_inv h
  obtain ⟨te, h3, h⟩ := ob_inv h
  obtain ⟨h4, h⟩ := oc_inv h
  obtain ⟨ob', h5, h⟩ := ob_inv h
  obtain ⟨es, eo, h⟩ := onMap_inv h
  rw [ea] at h1
  rw [eb] at h2
  rw [eo] at h5
  have hj := keq_inv h4
  obtain ⟨kt, u1, u2⟩ := tmap_some h3
  obtain ⟨r, hr, hf⟩ := mget_ok (ρ := ρ) (nx := nx) (kd := te.1) h
  have main : ∀ {φ tmps w} {c : Ctx}, St ρ c nx env H φ tmps w → (act tmps).eval x = .map (some (φ n).blk) ∧ (act tmps).eval y = .int j q ∧ ∃ ents clock, w.heap[(φ n).blk]? = some (.map ents clock) ∧
      ((r = none ∧ Instr.findNow (.int te.1) (.int j q) ents.toList 0 = some none) ∨ ∃ v p u, r = some v ∧ Instr.findNow (.int te.1) (.int j q) ents.toList 0 = some (some (p, u)) ∧ Rel ρ φ nx v u) := by
    intro φ tmps w c hs
    obtain ⟨ents, clock, g1, g2⟩ := ents_of (hs.ok.obj n _ h5).2
    have e1 : (act tmps).eval x = .map (some (φ n).blk) := by
      have := ev_rel hs h1
      generalize (act tmps).eval x = v at this
      cases this; rfl
    exact ⟨e1, nat_val (ev_rel hs h2), ents, clock, g1, hf 0 g2⟩
  cases r with
  | none =>
    obtain ⟨z, hz, hk⟩ := ob_inv (show ob (tzeroV P te.2) _ = true from hr)
    refine ⟨_, nx, H, fun o c ho => DoesB.pure fun φ tmps w hs => ?_, hk, (by first | exact ⟨[], rfl⟩ | exact ⟨[_], rfl⟩ | exact ⟨[_, _], rfl⟩)⟩
    obtain ⟨e1, e2, ents, clock, g1, hcase⟩ := main hs
    unfold tzeroV at hz
    split at hz
    · rename_i i hi
      split at hz
      · rename_i zv hzv
        cases hz
        rcases hcase with ⟨_, hfn⟩ | ⟨v, p, u, hv, _⟩
        · have hck := fun e m => MapKept.run_checkKey (P := P) (w := w) u2 (k := .int j q) (by exact hj) e m
          refine ⟨_, ?_, withOk_rel (ofV_rel ρ φ nx zv)⟩
          simp [execOp, ho, e1, e2, Instr.lookup, run_underlying u1, MapKept.run_getObj_map g1, hck _ 9999, MapKept.run_findKey u2 hfn, zeroValue, typeInfo, hi, hzv, Result.andThen]
        · cases hv
      · cases hz
    · cases hz
  | some v =>
    refine ⟨_, nx, H, fun o c ho => DoesB.pure fun φ tmps w hs => ?_, hr, (by first | exact ⟨[], rfl⟩ | exact ⟨[_], rfl⟩ | exact ⟨[_, _], rfl⟩)⟩
    obtain ⟨e1, e2, ents, clock, g1, hcase⟩ := main hs
    rcases hcase with ⟨hv, _⟩ | ⟨v', p, u, hv, hfn, hrel⟩
    · cases hv
    · cases hv
      have hck := fun e m => MapKept.run_checkKey (P := P) (w := w) u2 (k := .int j q) (by exact hj) e m
      refine ⟨_, ?_, withOk_rel hrel⟩
      simp [execOp, ho, e1, e2, Instr.lookup, run_underlying u1, MapKept.run_getObj_map g1, hck _ 9999, MapKept.run_findKey u2 hfn, Result.andThen]
theorem EntsRel.set {es : List (MV × MV)} {l : List MapEntry} (h : EntsRel ρ φ nx es l) {q : Nat} {e : MV × MV} {m : MapEntry} (h1 : Rel ρ φ nx e.1 m.key) (h2 : Rel ρ φ nx e.2 m.val) : EntsRel ρ φ nx (es.set q e) (l.set q m) := by
  refine ⟨by simp [h.1], fun i x hx => ?_⟩
  rw [List.getElem?_set] at hx
  split at hx
  · rename_i e'
    subst e'
    split at hx
    · rename_i hlt
      cases hx
      exact ⟨m, by rw [List.getElem?_set_self (by rw [h.1]; exact hlt)], h1, h2⟩
    · cases hx
  · rename_i hne
    obtain ⟨m', a, b⟩ := h.2 i x hx
    exact ⟨m', by rw [List.getElem?_set_ne hne]; exact a, b⟩
theorem EntsRel.push {es : List (MV × MV)} {l : List MapEntry} (h : EntsRel ρ φ nx es l) {e : MV × MV} {m : MapEntry} (h1 : Rel ρ φ nx e.1 m.key) (h2 : Rel ρ φ nx e.2 m.val) : EntsRel ρ φ nx (es ++ [e]) (l ++ [m]) := by
  refine ⟨by simp [h.1], fun i x hx => ?_⟩
  by_cases hi : i < es.length
  · rw [List.getElem?_append_left hi] at hx
    obtain ⟨m', a, b⟩ := h.2 i x hx
    exact ⟨m', by rw [List.getElem?_append_left (by rw [h.1]; exact hi)]; exact a, b⟩
  · rw [List.getElem?_append_right (by omega)] at hx
    have hi0 : i - es.length = 0 := by
      rcases Nat.eq_zero_or_pos (i - es.length) with h | h
      · exact h
      · rw [List.getElem?_eq_none (by simp; omega)] at hx; cases hx
    rw [hi0] at hx
    cases hx
    exact ⟨m, by rw [List.getElem?_append_right (by rw [h.1]; omega), h.1, hi0]; rfl, h1, h2⟩
theorem EntsRel.erase {es : List (MV × MV)} {l : List MapEntry} (h : EntsRel ρ φ nx es l) (q : Nat) : EntsRel ρ φ nx (es.eraseIdx q) (l.eraseIdx q) := by
  refine ⟨by simp [List.length_eraseIdx, h.1], fun i x hx => ?_⟩
  rw [List.getElem?_eraseIdx] at hx ⊢
  by_cases hq : i < q
  · rw [if_pos hq] at hx ⊢
    obtain ⟨m', a, b⟩ := h.2 i x hx
    exact ⟨m', a, b⟩
  · rw [if_neg hq] at hx ⊢
    obtain ⟨m', a, b⟩ := h.2 _ x hx
    exact ⟨m', a, b⟩
theorem oMapUpdate_ok {t : Nat} {x y z : Operand} {op : Op} (hop : op = .mapUpdate t x y z ∨ op = .insert t x y z) : OpOk ρ P (oMapUpdate P t x y z) op := fun {call env nx H k} _ h => by
  obtain ⟨a, h1, h⟩ := ob_inv h
  obtain ⟨n, ea, h⟩ := onM_inv h
  obtain ⟨b, h2, h⟩ := ob_inv h
  obtain ⟨j, q, eb, h⟩ := onKey_inv h
  obtain ⟨te, h3, h⟩ := ob_inv h
  obtain ⟨h4, h⟩ := oc_inv h
  obtain ⟨v, hv, h⟩ := ob_inv h
  obtain ⟨ob', h5, h⟩ := ob_inv h
  obtain ⟨es, eo, h⟩ := onMap_inv h
  rw [ea] at h1
  rw [eb] at h2
  rw [eo] at h5
  have hj := keq_inv h4
  obtain ⟨kt, u1, u2⟩ := tmap_some h3
  obtain ⟨es', p, hk, hf, he⟩ := mset_ok (ρ := ρ) (nx := nx) (kd := te.1) h
  refine ⟨_, nx, _, fun o c ho => DoesB.skip fun φ tmps w hs => ?_, hk, (by first | exact ⟨[], rfl⟩ | exact ⟨[_], rfl⟩ | exact ⟨[_, _], rfl⟩)⟩
  obtain ⟨ents, clock, g1, g2⟩ := ents_of (hs.ok.obj n _ h5).2
  have e1 : (act tmps).eval x = .map (some (φ n).blk) := by
    have := ev_rel hs h1
    generalize (act tmps).eval x = v at this
    cases this; rfl
  have e2 := nat_val (ev_rel hs h2)
  have rv := ev_rel hs hv
  have hck := fun e m => MapKept.run_checkKey (P := P) (w := w) u2 (k := .int j q) (by exact hj) e m
  have fin : ∀ {nents : Array MapEntry} {nclock : Nat}, (Instr.mapUpdate t (.map (some (φ n).blk)) (.int j q) ((act tmps).eval z)).run P w = .ok () { w with heap := w.heap.setIfInBounds (φ n).blk (.map nents nclock) } → EntsRel ρ φ nx es' nents.toList →
      ∃ φ' w', (execOp (act tmps).eval o).run P w = .ok .skip w' ∧ St ρ c nx env ((n, .map es') :: H) φ' tmps w' ∧ (∀ n, n < nx → φ' n = φ n) ∧ nx ≤ nx := by
    intro nents nclock hrun hrel
    obtain ⟨s1, s2⟩ := MapKept.heap_set (o' := .map nents nclock) g1
    refine ⟨φ, _, ?_, hs.write (w' := { w with heap := w.heap.setIfInBounds (φ n).blk (.map nents nclock) }) h5 (by simp) rfl rfl rfl (by simp) (fun b hb => s2 b hb) (ents_to s1 hrel), fun _ _ => rfl, Nat.le_refl _⟩
    rcases hop with rfl | rfl <;> simp [execOp, ho, e1, e2, hrun]
  cases p with
  | none =>
    have hfn := hf 0 g2
    refine fin (nents := ents.push ⟨.int j q, (act tmps).eval z, clock⟩) (nclock := clock + 1) ?_ ?_
    · simp [Instr.mapUpdate, run_underlying u1, MapKept.run_getObj_map g1, hck _ 9999, MapKept.run_findKey u2 hfn, MapKept.run_setObj_map _ g1, Result.andThen]
    · rw [he]
      simp only [Array.toList_push]
      exact g2.push (.n _ _) rv
  | some p =>
    obtain ⟨⟨e, f1, f2⟩, f3⟩ := hf
    obtain ⟨u, hfn⟩ := f3 0 g2
    rw [Nat.zero_add] at hfn
    obtain ⟨m, m1, m2, m3⟩ := g2.2 p e f1
    rw [f2] at m2
    have hmk := nat_val m2
    have hm1 : ents[p]? = some m := by simpa using m1
    refine fin (nents := ents.modify p fun e => { e with key := .int j q, val := (act tmps).eval z }) (nclock := clock) ?_ ?_
    · have hks : (Instr.keyThatStays (.int j q) (.int j q)).run P w = .ok (.int j q) w := by simp [Instr.keyThatStays, Instr.sameBits]
      simp [Instr.mapUpdate, run_underlying u1, MapKept.run_getObj_map g1, hck _ 9999, MapKept.run_findKey u2 hfn, MapKept.run_setObj_map _ g1, Result.andThen, hm1, hmk, hks]
    · rw [he]
      have : (ents.modify p fun e => { e with key := .int j q, val := (act tmps).eval z }).toList = ents.toList.set p { m with key := .int j q, val := (act tmps).eval z } := by
        apply List.ext_getElem?
        intro i
        rw [Array.getElem?_toList, Array.getElem?_modify, List.getElem?_set]
        by_cases hip : p = i
        · subst hip
          obtain ⟨hlt, hmp⟩ := Array.getElem?_eq_some_iff.1 hm1
          simp [hm1, hlt, hmp]
        · simp [hip]
      rw [this]
      exact g2.set (.n _ _) rv
theorem xDelete_ok {t : Nat} {ts : List Nat} {x y : Operand} {a b : MV} {k : KV} (h1 : ev env x = some a) (h2 : ev env y = some b) (h : xDelete P t a b nx H k = true) :
    ∃ v nx' H', (∀ o c, o.op = .call { callee := .builtin .delete, args := #[x, y], argTypes := (t :: ts).toArray } → DoesB ρ P o c nx env H v nx' H') ∧ k v nx' H' = true ∧ Suf H H' := by
  obtain ⟨n, ea, h⟩ := onM_inv h
  obtain ⟨j, q, eb, h⟩ := onKey_inv h
  obtain ⟨te, h3, h⟩ := ob_inv h
  obtain ⟨h4, h⟩ := oc_inv h
  obtain ⟨ob', h5, h⟩ := ob_inv h
  obtain ⟨es, eo, h⟩ := onMap_inv h
  rw [ea] at h1
  rw [eb] at h2
  rw [eo] at h5
  have hj := keq_inv h4
  obtain ⟨kt, u1, u2⟩ := tmap_some h3
  obtain ⟨es', p, hk, hf, he⟩ := mdel_ok (ρ := ρ) (nx := nx) (kd := te.1) h
  refine ⟨_, nx, _, fun o c ho => DoesB.value fun φ tmps w hs => ?_, hk, (by first | exact ⟨[], rfl⟩ | exact ⟨[_], rfl⟩ | exact ⟨[_, _], rfl⟩)⟩
  obtain ⟨ents, clock, g1, g2⟩ := ents_of (hs.ok.obj n _ h5).2
  have e1 : (act tmps).eval x = .map (some (φ n).blk) := by
    have := ev_rel hs h1
    generalize (act tmps).eval x = v at this
    cases this; rfl
  have e2 := nat_val (ev_rel hs h2)
  have hck := fun e m => MapKept.run_checkKey (P := P) (w := w) u2 (k := .int j q) (by exact hj) e m
  have fin : ∀ {nents : Array MapEntry} {nclock : Nat}, (Builtin.delete_ (t :: ts).toArray o.type #[.map (some (φ n).blk), .int j q]).run P w = .ok (.tuple #[]) { w with heap := w.heap.setIfInBounds (φ n).blk (.map nents nclock) } → EntsRel ρ φ nx es' nents.toList →
      ∃ φ' u w', (execOp (act tmps).eval o).run P w = .ok (.value u) w' ∧ St ρ c nx env ((n, .map es') :: H) φ' tmps w' ∧ Rel ρ φ' nx (.tup []) u ∧ (∀ n, n < nx → φ' n = φ n) ∧ nx ≤ nx := by
    intro nents nclock hrun hrel
    obtain ⟨s1, s2⟩ := MapKept.heap_set (o' := .map nents nclock) g1
    refine ⟨φ, .tuple #[], _, ?_, hs.write (w' := { w with heap := w.heap.setIfInBounds (φ n).blk (.map nents nclock) }) h5 (by simp) rfl rfl rfl (by simp) (fun b hb => s2 b hb) (ents_to s1 hrel), .tup [] #[] rfl (by simp), fun _ _ => rfl, Nat.le_refl _⟩
    simp only [execOp, ho, resolve, invoke, builtin]
    have e3 : #[x, y].map (act tmps).eval = #[.map (some (φ n).blk), .int j q] := by simp [e1, e2]
    simp only [Sem.run_bind, Sem.run_pure, Result.andThen_ok, e3, hrun]
  cases p with
  | none =>
    have hfn := hf 0 g2
    refine fin (nents := ents) (nclock := clock) ?_ (by rw [he]; exact g2)
    simp [Builtin.delete_, run_underlying u1, MapKept.run_getObj_map g1, hck _ 9999, MapKept.run_findKey u2 hfn, MapKept.run_setObj_map _ g1, Result.andThen]
  | some p =>
    obtain ⟨⟨e, f1, f2⟩, f3⟩ := hf
    obtain ⟨u, hfn⟩ := f3 0 g2
    rw [Nat.zero_add] at hfn
    obtain ⟨m, m1, m2, m3⟩ := g2.2 p e f1
    have hm1 : ents[p]? = some m := by simpa using m1
    have hlt := (Array.getElem?_eq_some_iff.1 hm1).1
    refine fin (nents := ents.eraseIdxIfInBounds p) (nclock := clock) ?_ ?_
    · simp [Builtin.delete_, run_underlying u1, MapKept.run_getObj_map g1, hck _ 9999, MapKept.run_findKey u2 hfn, MapKept.run_setObj_map _ g1, Result.andThen]
    · rw [he]
      have : (ents.eraseIdxIfInBounds p).toList = ents.toList.eraseIdx p := by simp [Array.eraseIdxIfInBounds, hlt]
      rw [this]
      exact g2.erase p
end
end Go.Proofs.YtnajikpdnccilaaGreat.Pv.M

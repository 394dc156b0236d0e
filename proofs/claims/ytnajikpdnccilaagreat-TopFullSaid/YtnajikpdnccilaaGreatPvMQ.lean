/- What one operation does: comparisons, sums, cuts, lengths. -/
import Derived.Test.YtnajikpdnccilaaGreatPvMP
set_option linter.unusedVariables false
set_option linter.unusedSimpArgs false
namespace Go.Proofs.YtnajikpdnccilaaGreat.Pv.M
open Go

section
variable {ρ : Nat → Int} {P : Program} {D : Dm} {o : Oper} {c : Ctx} {nx : Nat} {env : Env} {H : Heap}
theorem exec_bin {op : BinOp} {t u : Nat} {x y : Operand} {tmps : Array Value} {w : World} {a b r : Value} (ho : o.op = .binOp op t x y u) (ha : (act tmps).eval x = a) (hb : (act tmps).eval y = b)
    (h : stepBin op .other (fun r' => r' = r) a b) : (execOp (act tmps).eval o).run P w = .ok (.value r) w := by
  obtain ⟨r', k1, k2, k3, k4⟩ := run_stepBin (P := P) (t := t) (tab0Ok P) (.inl rfl) w h
  subst k1
  simp only [execOp, ho, ha, hb]
  simp only [Sem.run_bind, run_eqGuard_plain w k4, k3, Result.andThen_ok, Sem.run_pure]
theorem bArith_ok {op : BinOp} {kc : BN} {kg : BA} {t u : Nat} {x y : Operand} (hc : BNok op kc) (hD : OkD D ρ) (hg : BAok D ρ op kg) : OpOk ρ P (bArith D kc kg t x y) (.binOp op t x y u) := fun {call env nx H k} _ h => by
  obtain ⟨a, h1, h⟩ := ob_inv h
  obtain ⟨b, h2, h⟩ := ob_inv h
  rcases on2_ok hc hg h with ⟨kk, p, q, v, r, g1, g2, g3, g4⟩ | h
  · refine ⟨v, nx, H, fun o c ho => DoesB.pure fun φ tmps w hs => ⟨r, ?_, g3 φ nx⟩, g4, (by first | exact ⟨[], rfl⟩ | exact ⟨[_], rfl⟩ | exact ⟨[_, _], rfl⟩)⟩
    obtain ⟨e1, e2⟩ := g1 φ nx _ _ (ev_rel hs h1) (ev_rel hs h2)
    exact exec_bin ho e1 e2 g2
  · cases h
theorem tkind_some {f : TypeDesc → Bool} {t : Nat} (h : tkind P f t = true) : ∃ d, P.underlying t = some d ∧ f d = true := by
  unfold tkind at h
  split at h
  · rename_i d hd; exact ⟨d, hd, h⟩
  · cases h
theorem eqP_ok (hD : OkD D ρ) {t : Nat} {d : TypeDesc} (hu : P.underlying t = some d) {φ : Nat → Ph} {a b : MV} {va vb : Value} {r : Bool} (h : eqP D d a b = some r) (ha : Rel ρ φ nx a va) (hb : Rel ρ φ nx b vb) (w : World) (n : Nat) :
    (Op.equalIn (n + 1) t va vb).run P w = .ok r w ∧ (isAgg t).run P w = .ok false w := by
  have z : ∀ c : Int, c + dot ρ 0 [] = c := fun c => by simp [dot]
  unfold eqP at h
  split at h
  · split at h
    · cases h; cases ha; cases hb
      exact ⟨run_equalIn_bool' w n t _ _ hu, by simp [isAgg, run_underlying hu]⟩
    · cases h
  · refine ⟨?_, by simp [isAgg, run_underlying hu]⟩
    split at h
    · obtain ⟨e, h9⟩ := bi_some h
      have e := keq_inv e
      subst e; cases h9; cases ha; cases hb
      rw [run_equalIn_int w n t _ _ _ _ hu, ieq_eq]; rfl
    · obtain ⟨e, h9⟩ := bi_some h
      have e := keq_inv e
      subst e; cases ha; cases hb
      have := ceq_ok hD h9
      rw [z] at this
      rw [run_equalIn_int w n t _ _ _ _ hu, this]; rfl
    · obtain ⟨e, h9⟩ := bi_some h
      have e := keq_inv e
      subst e; cases ha; cases hb
      have := ceq_ok hD h9
      rw [z] at this
      rw [run_equalIn_int w n t _ _ _ _ hu, this]; rfl
    · obtain ⟨e, h9⟩ := bi_some h
      have e := keq_inv e
      subst e; cases ha; cases hb
      have := ceq_ok hD h9
      rw [run_equalIn_int w n t _ _ _ _ hu, this]; rfl
    · cases h
  · cases h
theorem eqFs_ok (hD : OkD D ρ) {φ : Nat → Ph} {cs ds : List MV} {xs ys : Array Value} (hx : Rel ρ φ nx (.agg cs) (.agg xs)) (hy : Rel ρ φ nx (.agg ds) (.agg ys)) (w : World) (n : Nat) :
    ∀ (F : List Field) (r : Bool), (∀ f ∈ F, (f.name != "_") = true) → eqFs P D cs ds F = some r → (Op.eqFields (n + 1) xs ys F).run P w = .ok r w
  | [], r, _, h => by simp only [eqFs] at h; cases h; simp [Op.eqFields]
  | f :: F, r, hn, h => by
    simp only [eqFs] at h
    obtain ⟨d, h1, h⟩ := bo_some h
    obtain ⟨a, h2, h⟩ := bo_some h
    obtain ⟨b, h3, h⟩ := bo_some h
    obtain ⟨q, h4, h⟩ := bo_some h
    rw [nth_eq] at h2 h3
    have hnf := hn f List.mem_cons_self
    simp only [bne_iff_ne, ne_eq] at hnf
    cases hx with
    | agg _ _ x1 x2 x3 =>
      cases hy with
      | agg _ _ y1 y2 y3 =>
        have hxl : f.offset < xs.size := by rw [x1]; exact (List.getElem?_eq_some_iff.1 h2).1
        have hyl : f.offset < ys.size := by rw [y1]; exact (List.getElem?_eq_some_iff.1 h3).1
        obtain ⟨e1, e2⟩ := eqP_ok hD h1 h4 (x3 f.offset a xs[f.offset] h2 (by simp [hxl])) (y3 f.offset b ys[f.offset] h3 (by simp [hyl])) w n
        have hpart : ∀ (vs : Array Value) (hlt : f.offset < vs.size), (part f.type vs f.offset).run P w = .ok vs[f.offset] w := by
          intro vs hlt
          simp only [part, Sem.run_bind, e2, Result.andThen_ok]
          simp [hlt]
        simp only [Op.eqFields, if_pos hnf, Sem.run_bind, hpart xs hxl, hpart ys hyl, e1, Result.andThen_ok]
        cases q with
        | false =>
          have h : some false = some r := h
          cases h; simp
        | true =>
          have h : eqFs P D cs ds F = some r := h
          simpa using eqFs_ok hD (.agg cs xs x1 x2 x3) (.agg ds ys y1 y2 y3) w n F r (fun g hg => hn g (List.mem_cons_of_mem _ hg)) h
/-- Comparisons of what are no numbers. -/
theorem xEq_ok (hD : OkD D ρ) {t : Nat} {a b : MV} {r : Bool} (h : xEq P D t a b = some r) {φ : Nat → Ph} {va vb : Value} (ha : Rel ρ φ nx a va) (hb : Rel ρ φ nx b vb) (w : World) (op : BinOp) (x y : Operand) (hop : op = .eql ∨ op = .neq) :
    (eqGuard op t x y va vb).run P w = .ok () w ∧ (Op.equalIn (9999 + 1) t va vb).run P w = .ok r w ∧ binOp .eql t va vb = (do pure (.bool (← Op.equal t va vb))) ∧ binOp .neq t va vb = (do pure (.bool (!(← Op.equal t va vb)))) ∨
      ∃ p q, va = .string p ∧ vb = .string q ∧ r = (p == q) := by
  have bK : ∀ {d}, dBool d = true → d = .bool := fun {d} h => by cases d <;> first | rfl | cases h
  have pK : ∀ {d}, dPtr d = true → ∃ e, d = .pointer e := fun {d} h => by cases d <;> first | exact ⟨_, rfl⟩ | cases h
  have sK : ∀ {d}, dSl d = true → ∃ e, d = .slice e := fun {d} h => by cases d <;> first | exact ⟨_, rfl⟩ | cases h
  have fK : ∀ {d}, dFn d = true → ∃ a b c, d = .func a b c := fun {d} h => by cases d <;> first | exact ⟨_, _, _, rfl⟩ | cases h
  unfold xEq at h
  split at h
  · obtain ⟨e, h⟩ := bi_some h
    cases h; cases ha; cases hb
    obtain ⟨d, d1, d2⟩ := tkind_some e
    cases bK d2
    exact .inl ⟨run_eqGuard_plain w rfl, run_equalIn_bool' w _ t _ _ d1, rfl, rfl⟩
  · cases ha; cases hb
    split at h
    · obtain ⟨e, h⟩ := bi_some h
      cases h
      obtain ⟨d, d1, d2⟩ := tkind_some e
      obtain ⟨e, rfl⟩ := pK d2
      exact .inl ⟨run_eqGuard_plain w rfl, run_equalIn_nilptr _ w d1, rfl, rfl⟩
    · obtain ⟨e, h⟩ := bi_some h
      cases h
      obtain ⟨d, d1, d2⟩ := tkind_some e
      obtain ⟨e, rfl⟩ := sK d2
      exact .inl ⟨run_eqGuard_plain w rfl, run_equalIn_nilsl _ w d1, rfl, rfl⟩
    · cases h
      exact .inr ⟨_, _, rfl, rfl, rfl⟩
    · obtain ⟨e, h⟩ := bi_some h
      cases h
      obtain ⟨d, d1, d2⟩ := tkind_some e
      exact .inl ⟨run_eqGuard_plain w rfl, run_equalIn_nilnil _ w (by obtain ⟨a, b, c, rfl⟩ := fK d2; exact ⟨a, b, c, d1⟩), rfl, rfl⟩
    · cases h
  · obtain ⟨e, h⟩ := bi_some h
    cases h; cases ha; cases hb
    obtain ⟨d, d1, d2⟩ := tkind_some e
    obtain ⟨e, rfl⟩ := pK d2
    exact .inl ⟨run_eqGuard_plain w rfl, run_equalIn_ptrnil _ w d1, rfl, rfl⟩
  · obtain ⟨e, h⟩ := bi_some h
    cases h; cases ha; cases hb
    obtain ⟨d, d1, d2⟩ := tkind_some e
    obtain ⟨e, rfl⟩ := sK d2
    exact .inl ⟨run_eqGuard_plain w rfl, run_equalIn_slnil _ w d1, rfl, rfl⟩
  · obtain ⟨e, h⟩ := bi_some h
    cases h; cases ha; cases hb
    obtain ⟨d, d1, d2⟩ := tkind_some e
    exact .inl ⟨run_eqGuard_plain w rfl, run_equalIn_fnnil _ w (by obtain ⟨a, b, c, rfl⟩ := fK d2; exact ⟨a, b, c, d1⟩), rfl, rfl⟩
  · obtain ⟨F, h1, h⟩ := bo_some h
    unfold tstruct at h1
    split at h1
    · rename_i fs hu
      obtain ⟨e1, h1⟩ := bi_some h1
      have e2 : P.stoodInHeld t = false := by cases hq : P.stoodInHeld t; rfl; rw [hq] at h1; cases h1
      rw [e2] at h1
      have h1 : bi (P.eqGuardType P.depth t) none (some fs.toList) = some F := h1
      have e3 : P.eqGuardType P.depth t = false := by cases hq : P.eqGuardType P.depth t; rfl; rw [hq] at h1; cases h1
      rw [e3] at h1
      have h1 : some fs.toList = some F := h1
      cases h1
      have ha' := ha
      have hb' := hb
      cases ha' with
      | agg _ vs _ _ _ =>
        cases hb' with
        | agg _ us _ _ _ =>
          have hfo : P.fieldsOf t = fs := by simp [Program.fieldsOf, hu]
          refine .inl ⟨run_eqGuard_agg (P := P) w op t x y vs us e3, ?_, rfl, rfl⟩
          rw [run_equalIn_struct (P := P) w 9999 t vs us (by rw [hfo]; exact hu) e2, hfo]
          exact eqFs_ok hD ha hb w 9998 fs.toList r (fun f hf => allB_inv e1 f hf) h
    · cases h1
  · cases h
theorem bEq_ok (hD : OkD D ρ) {op : BinOp} {pos : Bool} {kc : BN} {kg : BA} {t u : Nat} {x y : Operand} (hop : (op = .eql ∧ pos = true) ∨ (op = .neq ∧ pos = false)) (hc : BNok op kc) (hg : BAok D ρ op kg) :
    OpOk ρ P (bEq P D pos kc kg t x y) (.binOp op t x y u) := fun {call env nx H k} _ h => by
  obtain ⟨a, h1, h⟩ := ob_inv h
  obtain ⟨b, h2, h⟩ := ob_inv h
  rcases on2_ok hc hg h with ⟨kk, p, q, v, r, g1, g2, g3, g4⟩ | h
  · refine ⟨v, nx, H, fun o c ho => DoesB.pure fun φ tmps w hs => ⟨r, ?_, g3 φ nx⟩, g4, (by first | exact ⟨[], rfl⟩ | exact ⟨[_], rfl⟩ | exact ⟨[_, _], rfl⟩)⟩
    obtain ⟨e1, e2⟩ := g1 φ nx _ _ (ev_rel hs h1) (ev_rel hs h2)
    exact exec_bin ho e1 e2 g2
  · obtain ⟨r, h3, h⟩ := ob_inv h
    refine ⟨_, nx, H, fun o c ho => DoesB.pure fun φ tmps w hs => ⟨.bool (r == pos), ?_, .b _⟩, h, (by first | exact ⟨[], rfl⟩ | exact ⟨[_], rfl⟩ | exact ⟨[_, _], rfl⟩)⟩
    have hop' : op = .eql ∨ op = .neq := by rcases hop with ⟨e, _⟩ | ⟨e, _⟩ <;> simp [e]
    rcases xEq_ok hD h3 (ev_rel hs h1) (ev_rel hs h2) w op x y hop' with ⟨g1, g2, g3, g4⟩ | ⟨p, q, e1, e2, e3⟩
    · have := exec_cmp ho rfl rfl g1 g2 (fun _ => g3) (fun _ => g4) hop'
      rw [this]
      rcases hop with ⟨rfl, rfl⟩ | ⟨rfl, rfl⟩ <;> cases r <;> simp
    · subst e3
      rcases hop with ⟨rfl, rfl⟩ | ⟨rfl, rfl⟩
      · refine exec_bin ho e1 e2 ?_
        show Value.bool (p.toList == q.toList) = _
        rw [beq_toListBytes]; simp
      · refine exec_bin ho e1 e2 ?_
        show Value.bool (!(p.toList == q.toList)) = _
        rw [beq_toListBytes]; cases (p.toList == q.toList) <;> simp
theorem bSh_ok (hD : OkD D ρ) {op : BinOp} {left : Bool} (hop : op = if left then .shl else .shr) {t u : Nat} {x y : Operand} : OpOk ρ P (bSh D left t x y) (.binOp op t x y u) := fun {call env nx H k} _ h => by
  obtain ⟨a, h1, h⟩ := ob_inv h
  obtain ⟨b, h2, h⟩ := ob_inv h
  obtain ⟨j, d, rfl, h⟩ := onN_inv h
  obtain ⟨n, rfl, h⟩ := onNat_inv h
  have h8 := h
  rcases onI_inv h8 with ⟨i, c, ea, h9⟩ | ⟨i, c, l, ea, h9⟩ | ⟨_, _, h9⟩
  · obtain ⟨v, r, g1, g2, g3⟩ := shN_ok (ρ := ρ) (k' := j) h9
    refine ⟨v, nx, H, fun o c ho => DoesB.pure fun φ tmps w hs => ⟨r, ?_, g2 φ nx⟩, g3, (by first | exact ⟨[], rfl⟩ | exact ⟨[_], rfl⟩ | exact ⟨[_, _], rfl⟩)⟩
    rw [ea] at h1
    have e1 := ev_rel hs h1
    have e2 := ev_rel hs h2
    generalize hv1 : (act tmps).eval x = v1 at e1
    generalize hv2 : (act tmps).eval y = v2 at e2
    cases e1; cases e2
    subst hop
    exact exec_bin ho hv1 hv2 g1
  · obtain ⟨v, r, g1, g2, g3⟩ := shA_ok hD (k' := j) h9
    refine ⟨v, nx, H, fun o c ho => DoesB.pure fun φ tmps w hs => ⟨r, ?_, g2 φ nx⟩, g3, (by first | exact ⟨[], rfl⟩ | exact ⟨[_], rfl⟩ | exact ⟨[_, _], rfl⟩)⟩
    rw [ea] at h1
    have e1 := ev_rel hs h1
    have e2 := ev_rel hs h2
    generalize hv1 : (act tmps).eval x = v1 at e1
    generalize hv2 : (act tmps).eval y = v2 at e2
    cases e1; cases e2
    subst hop
    exact exec_bin ho hv1 hv2 g1
  · cases h9
theorem oBin_ok (hD : OkD D ρ) {op : BinOp} {t u : Nat} {x y : Operand} : OpOk ρ P (oBin P D op t x y) (.binOp op t x y u) := by
  cases op
  · exact bArith_ok nAdd_ok hD (aAdd_ok hD)
  · exact bArith_ok nSub_ok hD (aSub_ok hD)
  · exact bArith_ok nMul_ok hD (aMul_ok hD)
  · exact bArith_ok nQuo_ok hD (aQuo_ok hD)
  · exact bArith_ok nRem_ok hD (aRem_ok hD)
  · exact bArith_ok nAnd_ok hD (aAnd_ok hD)
  · exact bArith_ok nOr_ok hD (aOr_ok hD)
  · exact bArith_ok nXor_ok hD aNo_ok
  · exact bSh_ok hD rfl
  · exact bSh_ok hD rfl
  · exact bArith_ok nAndNot_ok hD aNo_ok
  · exact bEq_ok hD (.inl ⟨rfl, rfl⟩) nEql_ok (aEql_ok hD)
  · exact bEq_ok hD (.inr ⟨rfl, rfl⟩) nNeq_ok (aNeq_ok hD)
  · exact bArith_ok nLss_ok hD (aLss_ok hD)
  · exact bArith_ok nLeq_ok hD (aLeq_ok hD)
  · exact bArith_ok nGtr_ok hD (aGtr_ok hD)
  · exact bArith_ok nGeq_ok hD (aGeq_ok hD)
theorem oUn_ok {op : UnOp} {t : Nat} {x : Operand} : OpOk ρ P (oUn op x) (.unOp op t x) := fun {call env nx H k} _ h => by
  obtain ⟨a, h1, h⟩ := ob_inv h
  split at h
  · refine ⟨_, nx, H, fun o c ho => DoesB.pure fun φ tmps w hs => ⟨_, ?_, .b _⟩, h, (by first | exact ⟨[], rfl⟩ | exact ⟨[_], rfl⟩ | exact ⟨[_, _], rfl⟩)⟩
    have e1 := ev_rel hs h1
    generalize hv1 : (act tmps).eval x = v1 at e1
    cases e1
    simp [execOp, ho, hv1, Op.unary]
  · refine ⟨_, nx, H, fun o c ho => DoesB.pure fun φ tmps w hs => ⟨_, ?_, .n _ _⟩, wrapN_ok h, (by first | exact ⟨[], rfl⟩ | exact ⟨[_], rfl⟩ | exact ⟨[_, _], rfl⟩)⟩
    have e1 := ev_rel hs h1
    generalize hv1 : (act tmps).eval x = v1 at e1
    cases e1
    simp [execOp, ho, hv1, Op.unary, Op.intArith]
  · refine ⟨_, nx, H, fun o c ho => DoesB.pure fun φ tmps w hs => ⟨_, ?_, .n _ _⟩, h, (by first | exact ⟨[], rfl⟩ | exact ⟨[_], rfl⟩ | exact ⟨[_, _], rfl⟩)⟩
    have e1 := ev_rel hs h1
    generalize hv1 : (act tmps).eval x = v1 at e1
    cases e1
    simp [execOp, ho, hv1, Op.unary, Op.intBits, bitI]
  · cases h
theorem tintk_some {t : Nat} {k : IntKind} (h : tintk P t = some k) : P.underlying t = some (.int k) := by
  unfold tintk at h
  split at h
  · cases h; assumption
  · cases h
theorem oConv_ok (hD : OkD D ρ) {s t : Nat} {x : Operand} : OpOk ρ P (oConv P D s t x) (.convert s t x) := fun {call env nx H k} _ h => by
  obtain ⟨i, h1, h⟩ := ob_inv h
  obtain ⟨j, h2, h⟩ := ob_inv h
  obtain ⟨a, h3, h⟩ := ob_inv h
  have u1 := tintk_some h1
  have u2 := tintk_some h2
  rcases onI_inv h with ⟨i, c, ea, h9⟩ | ⟨i, c, l, ea, h9⟩ | ⟨_, _, h9⟩
  · refine ⟨_, nx, H, fun o c ho => DoesB.pure fun φ tmps w hs => ⟨_, ?_, .n _ _⟩, wrapN_ok h9, (by first | exact ⟨[], rfl⟩ | exact ⟨[_], rfl⟩ | exact ⟨[_, _], rfl⟩)⟩
    rw [ea] at h3
    have e1 := ev_rel hs h3
    generalize hv1 : (act tmps).eval x = v1 at e1
    cases e1
    simp [execOp, ho, hv1, convert, run_underlying u1, run_underlying u2, Conv.intToInt]
  · obtain ⟨v, g1, g2⟩ := wrapA_ok hD h9
    refine ⟨v, nx, H, fun o c ho => DoesB.pure fun φ tmps w hs => ⟨_, ?_, g1 φ nx⟩, g2, (by first | exact ⟨[], rfl⟩ | exact ⟨[_], rfl⟩ | exact ⟨[_, _], rfl⟩)⟩
    rw [ea] at h3
    have e1 := ev_rel hs h3
    generalize hv1 : (act tmps).eval x = v1 at e1
    cases e1
    simp [execOp, ho, hv1, convert, run_underlying u1, run_underlying u2, Conv.intToInt]
  · cases h9
end
end Go.Proofs.YtnajikpdnccilaaGreat.Pv.M

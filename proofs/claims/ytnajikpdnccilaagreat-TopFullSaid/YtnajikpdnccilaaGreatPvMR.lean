/- What one operation does: cuts, lengths, the least and the most; new things, stores. -/
import Derived.Test.YtnajikpdnccilaaGreatPvMQ
set_option linter.unusedVariables false
set_option linter.unusedSimpArgs false
namespace Go.Proofs.YtnajikpdnccilaaGreat.Pv.M
open Go

section
variable {ρ : Nat → Int} {P : Program} {D : Dm} {o : Oper} {c : Ctx} {nx : Nat} {env : Env} {H : Heap}
/-! ### Cuts -/
/-- A bound that may be left out. -/
def Bnd (v : Option Value) (d n : Nat) : Prop := (v = none ∧ n = d) ∨ ∃ k, v = some (.int k n)
theorem optN_inv {d : Nat} {x : Option Operand} {κ : Nat → Bool} (h : optN env d x κ = true) : ∃ n, κ n = true ∧ ∀ {φ tmps w} {c : Ctx}, St ρ c nx env H φ tmps w → Bnd (x.map (act tmps).eval) d n := by
  cases x with
  | none => exact ⟨d, h, fun _ => .inl ⟨rfl, rfl⟩⟩
  | some x =>
    obtain ⟨a, h1, h2⟩ := ob_inv (show ob (ev env x) _ = true from h)
    obtain ⟨k, n, rfl, h3⟩ := natM_inv h2
    exact ⟨n, h3, fun hs => .inr ⟨k, by rw [Option.map_some, nat_val (ev_rel hs h1)]⟩⟩
theorem run_bnd {x : Value} {k : IntKind} {n y : Nat} {code : BoundsCode} (h : x = .int k n) (hn : n ≤ y) (w : World) : (Instr.sliceBound x y code).run P w = .ok n w := by
  rw [h]; exact run_sliceBound w k n y code (by omega) (by omega)
theorem run_bnds {sl : Bool} {len cap a b : Nat} {lo hi : Option Value} (ha : Bnd lo 0 a) (hb : Bnd hi len b) (hab : a ≤ b) (hbc : b ≤ cap) (w : World) : (Instr.sliceBounds sl len cap lo hi none).run P w = .ok (a, b, cap) w := by
  rcases ha with ⟨rfl, rfl⟩ | ⟨k, rfl⟩ <;> rcases hb with ⟨rfl, rfl⟩ | ⟨j, rfl⟩
  · simp [Instr.sliceBounds]
  · simp only [Instr.sliceBounds, Sem.run_bind, Sem.run_pure, Result.andThen_ok, run_bnd rfl hbc]
  · simp only [Instr.sliceBounds, Sem.run_bind, Sem.run_pure, Result.andThen_ok, run_bnd rfl hab]
  · simp only [Instr.sliceBounds, Sem.run_bind, Sem.run_pure, Result.andThen_ok, run_bnd rfl hbc, run_bnd rfl hab]
theorem run_bnds3 {sl : Bool} {len cap a b d : Nat} {lo : Option Value} {h m : Value} (ha : Bnd lo 0 a) (hb : Bnd (some h) len b) {k : IntKind} (hm : m = .int k d) (hab : a ≤ b) (hbd : b ≤ d) (hdc : d ≤ cap) (w : World) :
    (Instr.sliceBounds sl len cap lo (some h) (some m)).run P w = .ok (a, b, d) w := by
  rcases hb with ⟨e, _⟩ | ⟨j, e⟩
  · cases e
  · cases e
    rcases ha with ⟨rfl, rfl⟩ | ⟨k, rfl⟩
    · simp only [Instr.sliceBounds, Sem.run_bind, Sem.run_pure, Result.andThen_ok, run_bnd hm hdc, run_bnd rfl hbd]
    · simp only [Instr.sliceBounds, Sem.run_bind, Sem.run_pure, Result.andThen_ok, run_bnd hm hdc, run_bnd rfl hbd, run_bnd rfl hab]
theorem exec_sliceM {t : Nat} {x : Operand} {lo hi mx : Option Operand} {tmps : Array Value} {w : World} {v r : Value} (ho : o.op = .slice t x lo hi mx) (hv : (act tmps).eval x = v)
    (hr : (Instr.sliceAt t v (lo.map (act tmps).eval) (hi.map (act tmps).eval) (mx.map (act tmps).eval)).run P w = .ok r w) : (execOp (act tmps).eval o).run P w = .ok (.value r) w := by
  simp only [execOp, ho, hv]
  rw [Sem.run_bind, hr]; rfl
theorem nilSl_eq {v : Value} (h : nilSl v = true) : v = .slice none 0 0 := by
  unfold nilSl at h
  split at h
  · rfl
  · cases h
theorem oSlice_ok {t : Nat} {x : Operand} {lo hi mx : Option Operand} : OpOk ρ P (oSlice P t x lo hi mx) (.slice t x lo hi mx) := fun {call env nx H k} _ h => by
  obtain ⟨a, h1, h⟩ := ob_inv h
  rcases onS_inv h with ⟨sz, n, off, l, cp, ea, h⟩ | ⟨n, off, ea, h⟩ | ⟨v, ea, h⟩
  · obtain ⟨s, h2, h⟩ := ob_inv h
    obtain ⟨h3, h⟩ := oc_inv h
    have es := Nat.eq_of_beq_eq_true h3
    subst es
    obtain ⟨p, h, bp⟩ := optN_inv (ρ := ρ) (nx := nx) (H := H) h
    obtain ⟨q, h, bq⟩ := optN_inv (ρ := ρ) (nx := nx) (H := H) h
    obtain ⟨h4, h⟩ := oc_inv h
    have hpq := Nat.le_of_ble_eq_true h4
    obtain ⟨e, e1, e2⟩ := telem_some h2
    rw [ea] at h1
    -- the last cut
    have fin : ∀ (m : Option Nat) (cap' : Option Nat), (∀ {φ tmps w} {c : Ctx} {A cc}, St ρ c nx env H φ tmps w → (act tmps).eval x = .slice (some A) l cc → l ≤ cc → (∀ d, cp = some d → cc = d) →
          (Instr.sliceBounds true l cc (lo.map (act tmps).eval) (hi.map (act tmps).eval) (mx.map (act tmps).eval)).run P w = .ok (p, q, m.getD cc) w ∧ q ≤ m.getD cc ∧ m.getD cc ≤ cc ∧ ∀ d, cap' = some d → m.getD cc - p = d) →
        k (.sl s n (off + p * s) (q - p) cap') nx H = true → ∃ v nx' H', (∀ o c, o.op = .slice t x lo hi mx → DoesB ρ P o c nx env H v nx' H') ∧ k v nx' H' = true ∧ Suf H H' := by
      intro m cap' hb hk
      refine ⟨_, nx, H, fun o c ho => DoesB.pure fun φ tmps w hs => ?_, hk, (by first | exact ⟨[], rfl⟩ | exact ⟨[_], rfl⟩ | exact ⟨[_, _], rfl⟩)⟩
      have hr := ev_rel hs h1
      generalize hv : (act tmps).eval x = u at hr
      cases hr with
      | sl g1 g2 g3 g4 g5 =>
        rename_i A cc
        obtain ⟨b1, b2, b3, b4⟩ := hb hs hv g2 g3
        refine ⟨.slice (some (if m.getD cc = p then A else A.add (p * s))) (q - p) (m.getD cc - p), exec_sliceM ho hv ?_, .sl g1 (by omega) (fun d hd => (b4 d hd)) ?_ (fun hne => ?_)⟩
        · simp only [Instr.sliceAt, Instr.slice, Sem.run_bind, run_underlying e1, Result.andThen_ok, b1, tsize_run e2, Sem.run_pure]
          congr 2
          split <;> simp
        · have : (p + (m.getD cc - p)) * s ≤ cc * s := Nat.mul_le_mul_right s (by omega)
          rw [Nat.add_mul] at this
          omega
        · rw [if_neg (by omega), g5 (by omega), add_plain]
          simp [Nat.add_assoc]
    cases mx with
    | none =>
      obtain ⟨h5, h⟩ := oc_inv (show oc _ _ = true from h)
      have hq := Nat.le_of_ble_eq_true h5
      refine fin none (bo cp fun c => some (Nat.sub c p)) (fun {φ tmps w c A cc} hs hv hl hc => ?_) h
      have hqc : q ≤ cc := by
        cases cp with
        | none => have : q ≤ l := hq; omega
        | some d => have : q ≤ d := hq; have := hc d rfl; omega
      refine ⟨run_bnds (bp hs) (bq hs) hpq hqc w, hqc, Nat.le_refl _, fun d hd => ?_⟩
      cases cp with
      | none => cases hd
      | some d' =>
        have e : some (Nat.sub d' p) = some d := hd
        cases e
        have := hc d' rfl
        simp only [Option.getD_none, this]; rfl
    | some mo =>
      obtain ⟨ho0, hho, h⟩ := ob_inv (show ob hi _ = true from h)
      obtain ⟨am, hm1, h⟩ := ob_inv h
      obtain ⟨km, m, rfl, h⟩ := natM_inv h
      obtain ⟨h5, h⟩ := oc_inv h
      obtain ⟨h6, h9⟩ := oc_inv h
      have hqm := Nat.le_of_ble_eq_true h5
      have hmc := Nat.le_of_ble_eq_true h6
      subst hho
      refine fin (some m) (some (Nat.sub m p)) (fun {φ tmps w c A cc} hs hv hl hc => ?_) h9
      have hmcc : m ≤ cc := by
        cases cp with
        | none => have : m ≤ l := hmc; omega
        | some d => have : m ≤ d := hmc; have := hc d rfl; omega
      exact ⟨run_bnds3 (bp hs) (bq hs) (nat_val (ev_rel hs hm1)) hpq hqm hmcc w, hqm, hmcc, fun d hd => by cases hd; rfl⟩
  · obtain ⟨r, h2, h⟩ := ob_inv h
    obtain ⟨ob', h3, h⟩ := ob_inv h
    obtain ⟨cs, rfl, h⟩ := onCells_inv h
    obtain ⟨h40, h⟩ := oc_inv h
    obtain ⟨h4, h⟩ := oc_inv h
    have hpos := Nat.le_of_ble_eq_true h40
    rw [len_eq] at hpos
    have hfit := Nat.le_of_ble_eq_true h4
    rw [len_eq] at hfit
    obtain ⟨p, h, bp⟩ := optN_inv (ρ := ρ) (nx := nx) (H := H) h
    obtain ⟨q, h, bq⟩ := optN_inv (ρ := ρ) (nx := nx) (H := H) h
    obtain ⟨h5, h⟩ := oc_inv h
    obtain ⟨h6, h⟩ := oc_inv h
    have hpq := Nat.le_of_ble_eq_true h5
    have hqr := Nat.le_of_ble_eq_true h6
    obtain ⟨e, e1, e2, e3⟩ := tarr_some h2
    rw [ea] at h1
    cases mx with
    | some _ => cases (show false = true from h)
    | none =>
      refine ⟨.sl r.2.1 n (off + p * r.2.1) (q - p) (some (r.1 - p)), nx, H, fun o c ho => DoesB.pure fun φ tmps w hs => ?_, h, (by first | exact ⟨[], rfl⟩ | exact ⟨[_], rfl⟩ | exact ⟨[_, _], rfl⟩)⟩
      have hr := ev_rel hs h1
      generalize hv : (act tmps).eval x = u at hr
      cases hr with
      | ptr g1 =>
        obtain ⟨arr, ty, a1, a2, a3⟩ := (hs.ok.obj n _ h3).2
        refine ⟨.slice (some (if r.1 = p then ⟨(φ n).blk, (φ n).base + off, none⟩ else (⟨(φ n).blk, (φ n).base + off, none⟩ : Addr).add (p * r.2.1))) (q - p) (r.1 - p), exec_sliceM ho hv ?_, .sl g1 (by omega) (fun d hd => by cases hd; rfl) ?_ (fun hne => ?_)⟩
        · simp only [Instr.sliceAt, Sem.run_bind, run_underlying e1, Result.andThen_ok, Instr.sureAddr, Sem.run_pure, Option.map_none, run_bnds (bp hs) (bq hs) hpq hqr, tsize_run e2]
        · have h7 : (p + (r.1 - p)) * r.2.1 ≤ r.1 * r.2.1 := Nat.mul_le_mul_right _ (by omega)
          rw [Nat.add_mul] at h7
          have h8 : off + r.1 * r.2.1 ≤ cs.length := hfit
          have h9 : (φ n).base + cs.length ≤ (φ n).size := by
            obtain ⟨u, b1, _⟩ := a3 (cs.length - 1) cs[cs.length - 1] (by rw [List.getElem?_eq_getElem (by omega)])
            have := (Array.getElem?_eq_some_iff.1 b1).1
            omega
          omega
        · rw [if_neg (by omega), add_plain]
          simp [Nat.add_assoc]
  · obtain ⟨s, h2, h⟩ := ob_inv h
    obtain ⟨h3, h⟩ := oc_inv h
    have ev' := nilSl_eq h3
    obtain ⟨p, h, bp⟩ := optN_inv (ρ := ρ) (nx := nx) (H := H) h
    obtain ⟨q, h, bq⟩ := optN_inv (ρ := ρ) (nx := nx) (H := H) h
    obtain ⟨h4, h⟩ := oc_inv h
    have hz : p + q = 0 := Nat.eq_of_beq_eq_true h4
    obtain ⟨e, e1, e2⟩ := telem_some h2
    have fin : k a nx H = true → (∀ {φ tmps w} {c : Ctx}, St ρ c nx env H φ tmps w → (Instr.sliceBounds true 0 0 (lo.map (act tmps).eval) (hi.map (act tmps).eval) (mx.map (act tmps).eval)).run P w = .ok (0, 0, 0) w) →
        ∃ v nx' H', (∀ o c, o.op = .slice t x lo hi mx → DoesB ρ P o c nx env H v nx' H') ∧ k v nx' H' = true ∧ Suf H H' := by
      intro hk hb
      refine ⟨_, nx, H, fun o c ho => DoesB.pure fun φ tmps w hs => ?_, hk, (by first | exact ⟨[], rfl⟩ | exact ⟨[_], rfl⟩ | exact ⟨[_, _], rfl⟩)⟩
      have hr := ev_rel hs h1
      refine ⟨_, ?_, hr⟩
      rw [ea, ev'] at hr
      generalize hv : (act tmps).eval x = u at hr
      cases hr
      refine exec_sliceM ho hv ?_
      simp only [Instr.sliceAt, Instr.slice, Sem.run_bind, run_underlying e1, Result.andThen_ok, hb hs, tsize_run e2, Sem.run_pure]
      rfl
    have hp0 : p = 0 := by omega
    have hq0 : q = 0 := by omega
    subst hp0; subst hq0
    cases mx with
    | none => exact fin h fun hs => run_bnds (bp hs) (bq hs) (Nat.le_refl _) (Nat.le_refl _) _
    | some mo =>
      obtain ⟨ho0, hho, h⟩ := ob_inv (show ob hi _ = true from h)
      obtain ⟨am, hm1, h⟩ := ob_inv h
      obtain ⟨km, m, rfl, h⟩ := natM_inv h
      obtain ⟨h5, h9⟩ := oc_inv h
      have hm0 := Nat.eq_of_beq_eq_true h5
      subst hm0; subst hho
      exact fin h9 fun hs => run_bnds3 (bp hs) (bq hs) (nat_val (ev_rel hs hm1)) (Nat.le_refl _) (Nat.le_refl _) (Nat.le_refl _) _
/-! ### Lengths, the least and the most -/
theorem xLen_ok {t : Nat} {x : Operand} {a : MV} {κ : MV → Bool} (h : xLen P t a H κ = true) : ∃ v, κ v = true ∧ ∀ {φ va w}, Rel ρ φ nx a va → ∃ r, (Builtin.len_ #[t] o.type #[va]).run P w = .ok r w ∧ Rel ρ φ nx v r := by
  rcases onS_inv h with ⟨sz, n, off, l, cp, rfl, h⟩ | ⟨n, off, rfl, h⟩ | ⟨v, rfl, h⟩
  · obtain ⟨s, h2, h⟩ := ob_inv h
    obtain ⟨e, e1, e2⟩ := telem_some h2
    refine ⟨_, h, fun {φ va w} hr => ?_⟩
    cases hr
    exact ⟨_, by first | (simp [Builtin.len_, run_underlying e1, goInt]; done) | (simp [Builtin.len_, run_underlying e1, goInt]; rfl), .n _ _⟩
  · cases h
  · have h : lenV P t v κ = true := h
    unfold lenV at h
    split at h
    · obtain ⟨s, h2, h⟩ := ob_inv h
      obtain ⟨e, e1, e2⟩ := telem_some h2
      refine ⟨_, h, fun {φ va w} hr => ?_⟩
      cases hr
      exact ⟨_, by first | (simp [Builtin.len_, run_underlying e1, goInt]; done) | (simp [Builtin.len_, run_underlying e1, goInt]; rfl), .n _ _⟩
    · obtain ⟨h3, h⟩ := oc_inv h
      have hu : P.underlying t = some .string := by
        unfold isStr at h3
        split at h3
        · assumption
        · cases h3
      refine ⟨_, h, fun {φ va w} hr => ?_⟩
      cases hr
      exact ⟨_, by first | (simp [Builtin.len_, run_underlying hu, goInt]; done) | (simp [Builtin.len_, run_underlying hu, goInt]; rfl), .n _ _⟩
    · cases h
theorem mmB_ok {a b : Option Bool} {p q : Int} {r : Bool} (h : mmB a b = some r) (ha : ∀ {x}, a = some x → x = decide (p ≤ q)) (hb : ∀ {x}, b = some x → x = decide (q ≤ p)) : (r = true → p ≤ q) ∧ (r = false → q ≤ p) := by
  unfold mmB at h
  split at h
  · cases h
    have := ha rfl
    subst this
    exact ⟨fun e => of_decide_eq_true e, fun e => by have := of_decide_eq_false e; omega⟩
  · split at h
    · rename_i y
      cases h
      have := hb rfl
      subst this
      refine ⟨fun e => ?_, fun e => ?_⟩
      · simp at e; omega
      · simp at e; omega
    · cases h
def mmV (least : Bool) (p q : Int) : Int := if least then (if q < p then q else p) else (if q > p then q else p)
theorem run_mm2 (least : Bool) (k j : IntKind) (p q : Int) (w : World) : ((if least then Builtin.min2 else Builtin.max2) (.int k p) (.int j q)).run P w = .ok (.int k (mmV least p q)) w := by
  cases least <;> simp [mmV, Builtin.min2, Builtin.max2]
theorem mm_ok (hD : OkD D ρ) {least : Bool} {k : IntKind} : ∀ {r : List MV} {c : Int} {l : List Int} {κ : MV → Bool}, mm D least k r c l κ = true → ∃ v, κ v = true ∧ ∀ {φ} {us : List Value} {w : World}, us.length = r.length → (∀ (i : Nat) y u, r[i]? = some y → us[i]? = some u → Rel ρ φ nx y u) →
    ∃ m, (us.foldlM (if least then Builtin.min2 else Builtin.max2) (.int k (c + dot ρ 0 l))).run P w = .ok (.int k m) w ∧ Rel ρ φ nx v (.int k m)
  | [], c, l, κ, h => ⟨_, h, fun {φ us w} hl _ => by
      have : us = [] := List.length_eq_zero_iff.1 hl
      subst this
      exact ⟨_, by simp, mk_rel k c l φ nx⟩⟩
  | x :: r, c, l, κ, h => by
    have z : ∀ c : Int, c + dot ρ 0 [] = c := fun c => by simp [dot]
    have step : ∀ (j : IntKind) (d : Int) (m : List Int), (∀ {φ u}, Rel ρ φ nx x u → u = .int j (d + dot ρ 0 m)) → (ob (mmB (cle D c l d m) (cle D d m c l)) fun b => ow (b == least) (mm D least k r c l κ) (mm D least k r d m κ)) = true →
        ∃ v, κ v = true ∧ ∀ {φ} {us : List Value} {w : World}, us.length = (x :: r).length → (∀ (i : Nat) y u, (x :: r)[i]? = some y → us[i]? = some u → Rel ρ φ nx y u) →
          ∃ m, (us.foldlM (if least then Builtin.min2 else Builtin.max2) (.int k (c + dot ρ 0 l))).run P w = .ok (.int k m) w ∧ Rel ρ φ nx v (.int k m) := by
      intro j d m hx hb
      obtain ⟨b, h1, h2⟩ := ob_inv hb
      obtain ⟨g1, g2⟩ := mmB_ok h1 (cle_ok hD) (cle_ok hD)
      have go : ∀ (c' : Int) (l' : List Int), mmV least (c + dot ρ 0 l) (d + dot ρ 0 m) = c' + dot ρ 0 l' → mm D least k r c' l' κ = true → ∃ v, κ v = true ∧ ∀ {φ} {us : List Value} {w : World}, us.length = (x :: r).length → (∀ (i : Nat) y u, (x :: r)[i]? = some y → us[i]? = some u → Rel ρ φ nx y u) →
          ∃ m, (us.foldlM (if least then Builtin.min2 else Builtin.max2) (.int k (c + dot ρ 0 l))).run P w = .ok (.int k m) w ∧ Rel ρ φ nx v (.int k m) := by
        intro c' l' he hm
        obtain ⟨v, v1, v2⟩ := mm_ok hD hm
        refine ⟨v, v1, fun {φ us w} hl hr => ?_⟩
        cases us with
        | nil => simp at hl
        | cons u us =>
          have e := hx (hr 0 x u rfl rfl)
          subst e
          obtain ⟨m', m1, m2⟩ := v2 (w := w) (by simpa using hl) (fun i y u h1 h2 => hr (i + 1) y u (by simpa using h1) (by simpa using h2))
          refine ⟨m', ?_, m2⟩
          simp only [List.foldlM_cons, Sem.run_bind, run_mm2, Result.andThen_ok, he]
          exact m1
      rcases ow_inv h2 with ⟨e, h3⟩ | ⟨e, h3⟩
      · refine go c l ?_ h3
        have e : b = least := by simpa using e
        subst e
        unfold mmV
        cases b with
        | true => have := g1 rfl; simp only [if_true]; split <;> omega
        | false => have := g2 rfl; simp only [Bool.false_eq_true, if_false]; split <;> omega
      · refine go d m ?_ h3
        unfold mmV
        cases b with
        | false => cases least with
          | false => cases e
          | true => have := g2 rfl; rw [if_pos rfl]; split <;> omega
        | true => cases least with
          | false => have := g1 rfl; rw [if_neg (by simp)]; split <;> omega
          | true => cases e
    rcases onI_inv (show onI x _ _ false = true from h) with ⟨j, d, ex, h⟩ | ⟨j, d, m, ex, h⟩ | ⟨_, _, h⟩
    · obtain ⟨h1, h⟩ := oc_inv h
      exact step j d [] (fun {φ u} hr => by rw [ex] at hr; cases hr; rw [z]) h
    · obtain ⟨h1, h⟩ := oc_inv h
      exact step j d m (fun {φ u} hr => by rw [ex] at hr; cases hr; rfl) h
    · cases h
theorem xMM_ok (hD : OkD D ρ) {least : Bool} {as : List MV} {κ : MV → Bool} (h : xMM D least as κ = true) : ∃ v, κ v = true ∧ ∀ {φ} {us : List Value} {w : World}, us.length = as.length → (∀ (i : Nat) y u, as[i]? = some y → us[i]? = some u → Rel ρ φ nx y u) →
    ∃ u0 ut r, us = u0 :: ut ∧ (ut.foldlM (if least then Builtin.min2 else Builtin.max2) u0).run P w = .ok r w ∧ Rel ρ φ nx v r := by
  have z : ∀ c : Int, c + dot ρ 0 [] = c := fun c => by simp [dot]
  cases as with
  | nil => cases (show false = true from h)
  | cons x t =>
    have go : ∀ (k : IntKind) (c : Int) (l : List Int), (∀ {φ u}, Rel ρ φ nx x u → u = .int k (c + dot ρ 0 l)) → mm D least k t c l κ = true → ∃ v, κ v = true ∧ ∀ {φ} {us : List Value} {w : World}, us.length = (x :: t).length → (∀ (i : Nat) y u, (x :: t)[i]? = some y → us[i]? = some u → Rel ρ φ nx y u) →
        ∃ u0 ut r, us = u0 :: ut ∧ (ut.foldlM (if least then Builtin.min2 else Builtin.max2) u0).run P w = .ok r w ∧ Rel ρ φ nx v r := by
      intro k c l hx hm
      obtain ⟨v, v1, v2⟩ := mm_ok (P := P) (nx := nx) hD hm
      refine ⟨v, v1, fun {φ us w} hl hr => ?_⟩
      cases us with
      | nil => simp at hl
      | cons u us =>
        have e := hx (hr 0 x u rfl rfl)
        subst e
        obtain ⟨m', m1, m2⟩ := v2 (w := w) (by simpa using hl) (fun i y u h1 h2 => hr (i + 1) y u (by simpa using h1) (by simpa using h2))
        exact ⟨_, us, _, rfl, m1, m2⟩
    rcases onI_inv (show onI x _ _ false = true from h) with ⟨k, c, ex, h⟩ | ⟨k, c, l, ex, h⟩ | ⟨_, _, h⟩
    · exact go k c [] (fun {φ u} hr => by rw [ex] at hr; cases hr; rw [z]) h
    · exact go k c l (fun {φ u} hr => by rw [ex] at hr; cases hr; rfl) h
    · cases h
end
end Go.Proofs.YtnajikpdnccilaaGreat.Pv.M

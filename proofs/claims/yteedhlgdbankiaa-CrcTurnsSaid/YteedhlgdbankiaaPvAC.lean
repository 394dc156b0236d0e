/- Rows of operations, told by what memory holds; slots told anew between them; rounds of several variables: printed by a program (wip/pv). -/
import Derived.Test.YteedhlgdbankiaaPvAB
set_option linter.unusedVariables false
set_option linter.unusedSimpArgs false
namespace Go.Proofs.Yteedhlgdbankiaa.Pv
open Go

/-- Whatever runs from all that fits. -/
def V (c : Ctx) (G : Act → World → Prop) (env : Env) (nx : Nat) (H : Heap) : Prop := ∀ φ tmps w, StΦ c nx env H φ tmps w → G (act tmps) w
/-- Operations in the text's order. -/
def R (P : Program) (c : Ctx) (ops : Array Oper) (rest : List Oper) (env : Env) (nx : Nat) (H : Heap) (Q : Post) : Prop := V c (wpList P ops (PostOf c Q) rest) env nx H

section
variable {c : Ctx} {G : Act → World → Prop} {nx : Nat} {env : Env} {H H' : Heap}
theorem v_le {s : Nat} {x y : PV} (he : look env s = some x) (hl : PV.le x y) (h : V c G ((s, y) :: env) nx H) : V c G env nx H := by
  intro φ tmps w hs
  refine h φ tmps w ⟨hs.ok, fun m q hm => ?_, hs.ext, hs.keep, hs.size⟩
  by_cases e : s = m
  · subst e
    rw [look_cons_same] at hm; cases hm
    obtain ⟨v, k1, k2⟩ := hs.env s x he
    exact ⟨v, k1, hl _ _ _ _ _ k2⟩
  · rw [look_cons_ne _ _ e] at hm
    exact hs.env m q hm
theorem v_frz {s : Nat} {pv : PV} {y : FV} (he : look env s = some pv) (hf : frz H pv = some (y, H')) (h : V c G ((s, .f y) :: env) nx H') : V c G env nx H := by
  intro φ tmps w hs
  obtain ⟨v, k1, k2⟩ := hs.env s pv he
  obtain ⟨a, b, d⟩ := frz_ok hs hf
  refine h φ tmps w ⟨a.ok, fun m q hm => ?_, a.ext, a.keep, a.size⟩
  by_cases e : s = m
  · subst e
    rw [look_cons_same] at hm; cases hm
    exact ⟨v, k1, .f (d v k2)⟩
  · rw [look_cons_ne _ _ e] at hm
    exact a.env m q hm
theorem v_low {n sz : Nat} {wr : Bool} {l : List FV} (hl : look H n = some (.buf wr sz l)) (h : V c G env nx (hput H n (.buf false sz l))) : V c G env nx H := fun φ tmps w hs => h φ tmps w (hs.freeze hl)
theorem v_set (E : Env) (H' : Heap) (n : Nat) (he : SubE E env) (hH : H = H') (hn : nx = n) (h : V c G E n H') : V c G env nx H := by
  subst hn; subst hH
  exact fun φ tmps w hs => h φ tmps w (hs.subEnv he.get)
theorem v_H (e : H = H') (h : V c G env nx H') : V c G env nx H := by rw [e]; exact h
theorem v_adopt {s sz : Nat} (hl : look env s = some (.f (.v (.slice none 0 0)))) (h : V c G ((s, .ref nx 0 none) :: env) (nx + 1) ((nx, .buf true sz []) :: H)) : V c G env nx H := by
  intro φ tmps w hs
  have h1 := hs.nilbuf true sz
  obtain ⟨v, k1, k2⟩ := h1.env s _ hl
  have hv := k2.v_inv
  subst hv
  refine h _ tmps w ⟨h1.ok, fun n pv hn => ?_, h1.ext, h1.keep, h1.size⟩
  by_cases e : s = n
  · subst e
    rw [look_cons_same] at hn; cases hn
    exact ⟨_, k1, .refnil (Nat.lt_succ_self _) (by rw [upd_same]) (by rw [upd_same]) rfl⟩
  · rw [look_cons_ne _ _ e] at hn
    exact h1.env n pv hn
theorem v_leC {n j : Nat} {cs : List PV} {x y : PV} (hl : look H n = some (.obj cs)) (hx : cs[j]? = some x) (hle : PV.le x y) (h : V c G env nx (hput H n (.obj (cs.set j y)))) : V c G env nx H := fun φ tmps w hs =>
  h φ tmps w (hs.leCells hl (by simp) fun i a b ha hb v hr => by
    by_cases e : j = i
    · subst e
      rw [hx] at ha; cases ha
      have hj := (List.getElem?_eq_some_iff.1 hx).1
      simp [hj] at hb; subst hb
      exact hle _ _ _ _ _ hr
    · rw [List.getElem?_set_ne e, ha] at hb; cases hb; exact hr)
theorem v_frzC {n j m lo sz : Nat} {hi : Option Nat} {wr : Bool} {l : List FV} {cs : List PV} (hnm : (m == n) = false) (hl : look H n = some (.obj cs)) (hx : cs[j]? = some (.ref m lo hi)) (hb : look H m = some (.buf wr sz l))
    (h : V c G env nx (hput (hput H m (.buf false sz l)) n (.obj (cs.set j (.f (.sl sz false (view lo hi l))))))) : V c G env nx H := fun φ tmps w hs => by
  have hne : m ≠ n := by simpa using hnm
  have h1 := hs.freeze hb
  refine h φ tmps w (h1.leCells (by rw [look_hput_ne _ _ hne]; exact hl) (by simp) fun i a b ha hb2 v hr => ?_)
  by_cases e : j = i
  · subst e
    rw [hx] at ha; cases ha
    have hj := (List.getElem?_eq_some_iff.1 hx).1
    simp [hj] at hb2; subst hb2
    exact .f (h1.frozen_ref (look_hput_same _ _ _) hr)
  · rw [List.getElem?_set_ne e, ha] at hb2; cases hb2; exact hr
theorem v_adoptC {n j sz : Nat} {cs : List PV} (hn : (nx == n) = false) (hl : look H n = some (.obj cs)) (hx : cs[j]? = some (.f (.v (.slice none 0 0)))) (h : V c G env (nx + 1) (hput ((nx, .buf true sz []) :: H) n (.obj (cs.set j (.ref nx 0 none))))) : V c G env nx H := fun φ tmps w hs => by
  have h1 := hs.nilbuf true sz
  have hne : nx ≠ n := by simpa using hn
  refine h _ tmps w (h1.leCells (by rw [look_cons_ne _ _ hne]; exact hl) (by simp) fun i a b ha hb2 v hr => ?_)
  by_cases e : j = i
  · subst e
    rw [hx] at ha; cases ha
    have hj := (List.getElem?_eq_some_iff.1 hx).1
    simp [hj] at hb2; subst hb2
    rw [hr.v_inv]
    exact .refnil (Nat.lt_succ_self _) (by rw [upd_same]) (by rw [upd_same]) rfl
  · rw [List.getElem?_set_ne e, ha] at hb2; cases hb2; exact hr
end

section
variable {P : Program} {tab : Tab} {c : Ctx} {nx : Nat} {env : Env} {H H' : Heap} {Q : Post} {ops : Array Oper} {rest : List Oper} {code : Code}

theorem r_le {s : Nat} {x y : PV} (he : look env s = some x) (hl : PV.le x y) (h : R P c ops rest ((s, y) :: env) nx H Q) : R P c ops rest env nx H Q := v_le he hl h
theorem w_le {s : Nat} {x y : PV} (he : look env s = some x) (hl : PV.le x y) (h : W P c code ((s, y) :: env) nx H Q) : W P c code env nx H Q := v_le he hl h
theorem r_eq {s : Nat} {x y : PV} (he : look env s = some x) (e : x = y) (h : R P c ops rest ((s, y) :: env) nx H Q) : R P c ops rest env nx H Q := v_le he (le_of_eq e) h
theorem w_eq {s : Nat} {x y : PV} (he : look env s = some x) (e : x = y) (h : W P c code ((s, y) :: env) nx H Q) : W P c code env nx H Q := v_le he (le_of_eq e) h
theorem r_frz {s : Nat} {pv : PV} {y : FV} (he : look env s = some pv) (hf : frz H pv = some (y, H')) (h : R P c ops rest ((s, .f y) :: env) nx H' Q) : R P c ops rest env nx H Q := v_frz he hf h
theorem w_frz {s : Nat} {pv : PV} {y : FV} (he : look env s = some pv) (hf : frz H pv = some (y, H')) (h : W P c code ((s, .f y) :: env) nx H' Q) : W P c code env nx H Q := v_frz he hf h
theorem r_low {n sz : Nat} {wr : Bool} {l : List FV} (hl : look H n = some (.buf wr sz l)) (h : R P c ops rest env nx (hput H n (.buf false sz l)) Q) : R P c ops rest env nx H Q := v_low hl h
theorem w_low {n sz : Nat} {wr : Bool} {l : List FV} (hl : look H n = some (.buf wr sz l)) (h : W P c code env nx (hput H n (.buf false sz l)) Q) : W P c code env nx H Q := v_low hl h
theorem r_set (E : Env) (H' : Heap) (n : Nat) (he : SubE E env) (hH : H = H') (hn : nx = n) (h : R P c ops rest E n H' Q) : R P c ops rest env nx H Q := v_set E H' n he hH hn h
theorem w_set (E : Env) (H' : Heap) (n : Nat) (he : SubE E env) (hH : H = H') (hn : nx = n) (h : W P c code E n H' Q) : W P c code env nx H Q := v_set E H' n he hH hn h
theorem r_H (e : H = H') (h : R P c ops rest env nx H' Q) : R P c ops rest env nx H Q := v_H e h
theorem w_H (e : H = H') (h : W P c code env nx H' Q) : W P c code env nx H Q := v_H e h
theorem r_adopt {s sz : Nat} (hl : look env s = some (.f (.v (.slice none 0 0)))) (h : R P c ops rest ((s, .ref nx 0 none) :: env) (nx + 1) ((nx, .buf true sz []) :: H) Q) : R P c ops rest env nx H Q := v_adopt hl h
theorem w_adopt {s sz : Nat} (hl : look env s = some (.f (.v (.slice none 0 0)))) (h : W P c code ((s, .ref nx 0 none) :: env) (nx + 1) ((nx, .buf true sz []) :: H) Q) : W P c code env nx H Q := v_adopt hl h
theorem r_leC {n j : Nat} {cs : List PV} {x y : PV} (hl : look H n = some (.obj cs)) (hx : cs[j]? = some x) (hle : PV.le x y) (h : R P c ops rest env nx (hput H n (.obj (cs.set j y))) Q) : R P c ops rest env nx H Q := v_leC hl hx hle h
theorem w_leC {n j : Nat} {cs : List PV} {x y : PV} (hl : look H n = some (.obj cs)) (hx : cs[j]? = some x) (hle : PV.le x y) (h : W P c code env nx (hput H n (.obj (cs.set j y))) Q) : W P c code env nx H Q := v_leC hl hx hle h
theorem r_frzC {n j m lo sz : Nat} {hi : Option Nat} {wr : Bool} {l : List FV} {cs : List PV} (hnm : (m == n) = false) (hl : look H n = some (.obj cs)) (hx : cs[j]? = some (.ref m lo hi)) (hb : look H m = some (.buf wr sz l)) (h : R P c ops rest env nx (hput (hput H m (.buf false sz l)) n (.obj (cs.set j (.f (.sl sz false (view lo hi l)))))) Q) : R P c ops rest env nx H Q := v_frzC hnm hl hx hb h
theorem w_frzC {n j m lo sz : Nat} {hi : Option Nat} {wr : Bool} {l : List FV} {cs : List PV} (hnm : (m == n) = false) (hl : look H n = some (.obj cs)) (hx : cs[j]? = some (.ref m lo hi)) (hb : look H m = some (.buf wr sz l)) (h : W P c code env nx (hput (hput H m (.buf false sz l)) n (.obj (cs.set j (.f (.sl sz false (view lo hi l)))))) Q) : W P c code env nx H Q := v_frzC hnm hl hx hb h
theorem r_adoptC {n j sz : Nat} {cs : List PV} (hn : (nx == n) = false) (hl : look H n = some (.obj cs)) (hx : cs[j]? = some (.f (.v (.slice none 0 0)))) (h : R P c ops rest env (nx + 1) (hput ((nx, .buf true sz []) :: H) n (.obj (cs.set j (.ref nx 0 none)))) Q) : R P c ops rest env nx H Q := v_adoptC hn hl hx h
theorem w_adoptC {n j sz : Nat} {cs : List PV} (hn : (nx == n) = false) (hl : look H n = some (.obj cs)) (hx : cs[j]? = some (.f (.v (.slice none 0 0)))) (h : W P c code env (nx + 1) (hput ((nx, .buf true sz []) :: H) n (.obj (cs.set j (.ref nx 0 none)))) Q) : W P c code env nx H Q := v_adoptC hn hl hx h

theorem r_end (h : Q .normal env nx H) : R P c ops [] env nx H Q := fun φ tmps w hs => ⟨.normal, env, nx, H, φ, rfl, rfl, hs, h⟩
theorem run_R (ht : TabOk P tab) {o : Oper} (hd : dstOk c.nt o.dst = true) (h : stepOp P tab env nx H (fun pv nx' H' => R P c ops rest (putE o.dst pv env) nx' H' Q) o.op) {φ : Nat → Phys} {tmps : Array Value} {w : World} (hs : StΦ c nx env H φ tmps w) :
    o.wp P (act tmps) w (wpList P ops (PostOf c Q) rest) (PostOf c Q) := by
  refine does_op ht h φ tmps w hs _ _ fun pv nx' H' φ' v w' hk hs' hr => ?_
  have e : (act tmps).put o.dst v = act ((act tmps).put o.dst v).tmps := by cases o.dst <;> rfl
  rw [e]
  exact hk φ' _ w' (hs'.putE hr hd)
theorem r_op (ht : TabOk P tab) {dst : Option Nat} {op : Op} {t : Nat} {p : String} {a : Array Edge} {nt : Nat} (hnt : c.nt = nt) (hd : dstOk nt dst = true) (h : stepOp P tab env nx H (fun pv nx' H' => R P c ops rest (putE dst pv env) nx' H' Q) op) : R P c ops (⟨dst, op, t, p, a, none⟩ :: rest) env nx H Q := by
  subst hnt
  intro φ tmps w hs
  unfold wpList
  rw [if_pos (by simp [Region.wanted])]
  exact .inl (run_R ht (o := ⟨dst, op, t, p, a, none⟩) hd h hs)
theorem r_gd (ht : TabOk P tab) {dst : Option Nat} {op : Op} {t : Nat} {p : String} {a : Array Edge} {nt : Nat} (hnt : c.nt = nt) {j d : Nat} {want : Bool} {v : Value} (hj : (ops[j]?).bind (·.dst) = some d) (hb : look env d = some (.f (.v v))) (hd : dstOk nt dst = true)
    (h1 : vb v = some want → R P c ops (⟨dst, op, t, p, a, none⟩ :: rest) env nx H Q) (h2 : vb v ≠ some want → R P c ops rest (dropE dst env) nx H Q) : R P c ops (⟨dst, op, t, p, a, some (j, want)⟩ :: rest) env nx H Q := by
  subst hnt
  intro φ tmps w hs
  obtain ⟨u, k1, k2⟩ := hs.env d _ hb
  have hv := k2.v_inv
  subst hv
  have hy := yielded_vb hj k1
  unfold wpList
  by_cases hw : vb u = some want
  · rw [if_pos (by simp [Region.wanted, hy, hw])]
    have h3 := h1 hw φ tmps w hs
    unfold wpList at h3
    rw [if_pos (by simp [Region.wanted])] at h3
    exact h3
  · rw [if_neg (by simp [Region.wanted, hy, hw])]
    have e : (act tmps).put dst undef = act ((act tmps).put dst undef).tmps := by cases dst <;> rfl
    show wpList P ops (PostOf c Q) rest ((act tmps).put dst undef) w
    rw [e]
    exact h2 hw φ _ w (hs.putE (.f (.v undef)) hd)
theorem r_if (ht : TabOk P tab) {dst : Option Nat} {op : Op} {t : Nat} {p : String} {a : Array Edge} {nt : Nat} (hnt : c.nt = nt) {j d : Nat} {want b : Bool} (hj : (ops[j]?).bind (·.dst) = some d) (hb : look env d = some (.f (.v (.bool b)))) (hd : dstOk nt dst = true)
    (h1 : b = want → R P c ops (⟨dst, op, t, p, a, none⟩ :: rest) env nx H Q) (h2 : b = !want → R P c ops rest (dropE dst env) nx H Q) : R P c ops (⟨dst, op, t, p, a, some (j, want)⟩ :: rest) env nx H Q :=
  r_gd ht hnt hj hb hd (fun e => h1 (by simpa [vb] using e)) (fun e => h2 (by cases b <;> cases want <;> simp_all [vb]))
theorem r_undef (ht : TabOk P tab) {dst : Option Nat} {op : Op} {t : Nat} {p : String} {a : Array Edge} {nt : Nat} (hnt : c.nt = nt) {j d : Nat} {want : Bool} (hj : (ops[j]?).bind (·.dst) = some d) (hb : look env d = some undefP) (hd : dstOk nt dst = true)
    (h2 : R P c ops rest (dropE dst env) nx H Q) : R P c ops (⟨dst, op, t, p, a, some (j, want)⟩ :: rest) env nx H Q :=
  r_gd ht hnt hj hb hd (fun e => (by cases e)) (fun _ => h2)
theorem w_R {id : Nat} (h : R P c ops ops.toList env nx H Q) : W P c (.region id ops false) env nx H Q := fun φ tmps w hs => wp_region_list (h φ tmps w hs)

/-! ### Values told otherwise -/
def FLe (x y : FV) : Prop := ∀ w S v, RepF w S x v → RepF w S y v
theorem FLe.refl (x : FV) : FLe x x := fun _ _ _ h => h
theorem FLe.of {x y : FV} (h : x = y) : FLe x y := by subst h; exact FLe.refl x
theorem FLe.nil (sz : Nat) (cl : Bool) : FLe (.v (.slice none 0 0)) (.sl sz cl []) := by
  intro w S v h; cases h; exact .slnil sz cl
theorem FLe.loose {sz : Nat} {cl : Bool} {l : List FV} : FLe (.sl sz cl l) (.sl sz false l) := by
  intro w S v h
  cases h with
  | slnil _ _ => exact .slnil sz false
  | slemp _ _ A => exact .slemp sz false A
  | sl _ _ l b off cap val h1 h2 h3 h4 h5 => exact .sl sz false l b off cap val h1 (fun e => by cases e) h3 h4 h5
def FLeL : List FV → List FV → Prop
  | [], [] => True
  | x :: s, y :: t => FLe x y ∧ FLeL s t
  | _, _ => False
theorem FLeL.get : ∀ {a b : List FV}, FLeL a b → a.length = b.length ∧ ∀ (i : Nat) x y, a[i]? = some x → b[i]? = some y → FLe x y
  | [], [], _ => ⟨rfl, fun i x y h => by simp at h⟩
  | [], _ :: _, h => h.elim
  | _ :: _, [], h => h.elim
  | x :: s, y :: t, h => by
    obtain ⟨k1, k2⟩ := FLeL.get h.2
    refine ⟨by simp [k1], fun i a b ha hb => ?_⟩
    cases i with
    | zero => simp at ha hb; subst ha; subst hb; exact h.1
    | succ i => exact k2 i a b (by simpa using ha) (by simpa using hb)
theorem FLe.agg {cs ds : List FV} (h : FLeL cs ds) : FLe (.agg cs) (.agg ds) := by
  intro w S v hv
  obtain ⟨h1, h2⟩ := h.get
  cases hv with
  | agg _ vs a1 a2 a3 =>
    refine .agg ds vs (by rw [a1, h1]) a2 fun i d u hd hu => ?_
    have hi : i < cs.length := by rw [h1]; exact (List.getElem?_eq_some_iff.1 hd).1
    exact h2 i cs[i] d (by simp [hi]) hd _ _ _ (a3 i cs[i] u (by simp [hi]) hu)
theorem le_F {x y : FV} (h : FLe x y) : PV.le (.f x) (.f y) := by
  intro φ nx w S v hv
  cases hv with | f hv => exact .f (h _ _ _ hv)
theorem le_nilS {α : Type} {f : α → FV} (sz : Nat) (cl : Bool) : PV.le pNil (pS sz cl f []) := le_nil sz cl

/-! ### A call -/
/-- A call: what is handed over, by names; what comes back. -/
theorem s_callX {f : Operand} {args : Array Operand} {ts : Array Nat} {g : Nat} {caps ps ps2 : List PV} {r r2 : PV} {k0 k nx1 : Nat} {H0 H1 H2 H3 : Heap} (ns : List Nat) (os : List Obj) (h1 : ev env f = some (.clo (.func g) caps)) (h2 : evs env args.toList = some ps)
    (hp : passes ns H (ps ++ caps) = (ps2, H2)) (h3 : Handed H2 ns os) (h3' : (ns.all fun n => decide (n < nx)) = true) (h4 : (ps2.all (has fun n => ns.contains n)) = true) (h5 : (os.all (hasO fun n => ns.contains n)) = true)
    (hk : ns.length = k) (hH : mkH 0 (os.map (renO (tau ns))) = H1) {ps3 : List PV} (h6 : ps2.map (ren (tau ns)) = ps3) (ht : T P g ps3 k H1 (Ret r k0 H0)) (hr : has (fun _ => true) r = true) (hd : Dist H0) (ho : (H0.all fun p => hasO (fun _ => true) p.2) = true)
    (e1 : ren (sig ns nx) r = r2) (e2 : nx + (k0 - k) = nx1) (e3 : renH (sig ns nx) H0 ++ drops H2 ns = H3) {K : PV → Nat → Heap → Prop} (h : K r2 nx1 H3) : stepOp P tab env nx H K (.call { callee := .value f, args := args, argTypes := ts }) := by
  subst hk; subst hH; subst h6; subst e1; subst e2; subst e3
  have q1 : (passes ns H (allArgs ps caps)).1 = ps2 := by unfold allArgs; rw [hp]
  have q2 : (passes ns H (allArgs ps caps)).2 = H2 := by unfold allArgs; rw [hp]
  exact s_callR ns h1 h2 (by rw [q2]; exact h3) h3' (by rw [q1]; exact h4) h5 (by rw [q1]; exact ht) hr hd ho (by rw [q2]; exact h)
theorem s_callF {f : Operand} {args : Array Operand} {ts : Array Nat} {g : Nat} {ps : List PV} {r : PV} (h1 : ev env f = some (.clo (.func g) [])) (h2 : evs env args.toList = some ps) (h3 : ps.all isF = true) (ht : T P g ps 0 [] (Ret r 0 []))
    (hr : has (fun _ => false) r = true) {K : PV → Nat → Heap → Prop} (h : K r nx H) : stepOp P tab env nx H K (.call { callee := .value f, args := args, argTypes := ts }) := s_call0 h1 h2 h3 ht hr h
/-- Nothing is laid behind. -/
theorem s_appE {t u e sz : Nat} {x y : Operand} {i ie : TI} {α : Type} {f : α → FV} {l xs : List α} (h1 : tab t = some i) (h2 : i.kd = .slice e) (h3 : tab e = some ie) (hz : ie.size = sz ∧ sz ≠ 0 ∧ ie.bytes ≠ 0) (h5 : Src tab env H u y sz (xs.map f)) (h6 : ev env x = some (.f (.sl sz true (l.map f))))
    (hx : xs = []) {K : PV → Nat → Heap → Prop} (h : K (pS sz true f l) nx H) : stepOp P tab env nx H K (.call { callee := .builtin .append, args := #[x, y], argTypes := #[t, u] }) := by
  subst hx
  have : stepAppend tab env H nx K t u x y := ⟨i, e, ie, [], h1, h2, h3, by rw [hz.1]; exact hz.2.1, hz.2.2, by rw [hz.1]; simpa using h5, .inr (.inr (.inr ⟨l.map f, by rw [hz.1]; exact h6, rfl, by rw [hz.1]; exact h⟩))⟩
  exact this
end

/-! ### Rounds, and where ways meet, with several variables -/
section
variable {P : Program} {c : Ctx} {nx : Nat} {env : Env} {H : Heap} {Q : Post} {body a b : Code}
theorem loop0 (I : Prop) (E : Env) (N : Nat) (G : Heap) (μ : Nat)  (hI : I) (h0 : Emb c.k E N G env H)
    (round : I → W P c body E N G (thenP (fun env' _ H' => I ∧ μ < μ ∧ Emb c.k E N G env' H') Q)) : W P c (.loop body) env nx H Q :=
  w_loop (α := Unit) (fun x => I) (fun x => E) (fun _ => N) (fun x => G) (fun x => μ) () hI h0 fun x hx => (round  hx).mono fun e env nx H h => by
    cases e with
    | normal => obtain ⟨q1, q2, q3⟩ := h; exact ⟨(), q1, q2, q3⟩
    | exit i => exact h
    | ret => exact h
theorem join0 (I : Prop) (E : Env) (N : Nat) (G : Heap) (h1 : W P c a env nx H (thenP (fun env' _ H' => I ∧ Emb c.k E N G env' H') Q)) (h2 : I → W P c b E N G Q) : W P c (.seq a b) env nx H Q :=
  w_join (α := Unit) (fun x => I) (fun x => E) (fun _ => N) (fun x => G) (h1.mono fun e env nx H h => by
    cases e with
    | normal => obtain ⟨q1, q3⟩ := h; exact ⟨(), q1, q3⟩
    | exit i => exact h
    | ret => exact h) fun x hx => h2  hx
theorem loop1 {A0 : Type} (I : A0 → Prop) (E : A0 → Env) (N : Nat) (G : A0 → Heap) (μ : A0 → Nat) (z0 : A0) (hI : (I z0)) (h0 : Emb c.k (E z0) N (G z0) env H)
    (round : ∀ a0, (I a0) → W P c body (E a0) N (G a0) (thenP (fun env' _ H' => ∃ y0, (I y0) ∧ (μ y0) < (μ a0) ∧ Emb c.k (E y0) N (G y0) env' H') Q)) : W P c (.loop body) env nx H Q :=
  w_loop (α := A0) (fun x => (I x)) (fun x => (E x)) (fun _ => N) (fun x => (G x)) (fun x => (μ x)) z0 hI h0 fun x hx => (round x hx).mono fun e env nx H h => by
    cases e with
    | normal => obtain ⟨y0, q1, q2, q3⟩ := h; exact ⟨y0, q1, q2, q3⟩
    | exit i => exact h
    | ret => exact h
theorem join1 {A0 : Type} (I : A0 → Prop) (E : A0 → Env) (N : Nat) (G : A0 → Heap) (h1 : W P c a env nx H (thenP (fun env' _ H' => ∃ y0, (I y0) ∧ Emb c.k (E y0) N (G y0) env' H') Q)) (h2 : ∀ a0, (I a0) → W P c b (E a0) N (G a0) Q) : W P c (.seq a b) env nx H Q :=
  w_join (α := A0) (fun x => (I x)) (fun x => (E x)) (fun _ => N) (fun x => (G x)) (h1.mono fun e env nx H h => by
    cases e with
    | normal => obtain ⟨y0, q1, q3⟩ := h; exact ⟨y0, q1, q3⟩
    | exit i => exact h
    | ret => exact h) fun x hx => h2 x hx
theorem loop2 {A0 A1 : Type} (I : A0 → A1 → Prop) (E : A0 → A1 → Env) (N : Nat) (G : A0 → A1 → Heap) (μ : A0 → A1 → Nat) (z0 : A0) (z1 : A1) (hI : (I z0 z1)) (h0 : Emb c.k (E z0 z1) N (G z0 z1) env H)
    (round : ∀ a0 a1, (I a0 a1) → W P c body (E a0 a1) N (G a0 a1) (thenP (fun env' _ H' => ∃ y0 y1, (I y0 y1) ∧ (μ y0 y1) < (μ a0 a1) ∧ Emb c.k (E y0 y1) N (G y0 y1) env' H') Q)) : W P c (.loop body) env nx H Q :=
  w_loop (α := A0 × A1) (fun x => (I x.1 x.2)) (fun x => (E x.1 x.2)) (fun _ => N) (fun x => (G x.1 x.2)) (fun x => (μ x.1 x.2)) (z0, z1) hI h0 fun x hx => (round x.1 x.2 hx).mono fun e env nx H h => by
    cases e with
    | normal => obtain ⟨y0, y1, q1, q2, q3⟩ := h; exact ⟨(y0, y1), q1, q2, q3⟩
    | exit i => exact h
    | ret => exact h
theorem join2 {A0 A1 : Type} (I : A0 → A1 → Prop) (E : A0 → A1 → Env) (N : Nat) (G : A0 → A1 → Heap) (h1 : W P c a env nx H (thenP (fun env' _ H' => ∃ y0 y1, (I y0 y1) ∧ Emb c.k (E y0 y1) N (G y0 y1) env' H') Q)) (h2 : ∀ a0 a1, (I a0 a1) → W P c b (E a0 a1) N (G a0 a1) Q) : W P c (.seq a b) env nx H Q :=
  w_join (α := A0 × A1) (fun x => (I x.1 x.2)) (fun x => (E x.1 x.2)) (fun _ => N) (fun x => (G x.1 x.2)) (h1.mono fun e env nx H h => by
    cases e with
    | normal => obtain ⟨y0, y1, q1, q3⟩ := h; exact ⟨(y0, y1), q1, q3⟩
    | exit i => exact h
    | ret => exact h) fun x hx => h2 x.1 x.2 hx
theorem loop3 {A0 A1 A2 : Type} (I : A0 → A1 → A2 → Prop) (E : A0 → A1 → A2 → Env) (N : Nat) (G : A0 → A1 → A2 → Heap) (μ : A0 → A1 → A2 → Nat) (z0 : A0) (z1 : A1) (z2 : A2) (hI : (I z0 z1 z2)) (h0 : Emb c.k (E z0 z1 z2) N (G z0 z1 z2) env H)
    (round : ∀ a0 a1 a2, (I a0 a1 a2) → W P c body (E a0 a1 a2) N (G a0 a1 a2) (thenP (fun env' _ H' => ∃ y0 y1 y2, (I y0 y1 y2) ∧ (μ y0 y1 y2) < (μ a0 a1 a2) ∧ Emb c.k (E y0 y1 y2) N (G y0 y1 y2) env' H') Q)) : W P c (.loop body) env nx H Q :=
  w_loop (α := A0 × A1 × A2) (fun x => (I x.1 x.2.1 x.2.2)) (fun x => (E x.1 x.2.1 x.2.2)) (fun _ => N) (fun x => (G x.1 x.2.1 x.2.2)) (fun x => (μ x.1 x.2.1 x.2.2)) (z0, z1, z2) hI h0 fun x hx => (round x.1 x.2.1 x.2.2 hx).mono fun e env nx H h => by
    cases e with
    | normal => obtain ⟨y0, y1, y2, q1, q2, q3⟩ := h; exact ⟨(y0, y1, y2), q1, q2, q3⟩
    | exit i => exact h
    | ret => exact h
theorem join3 {A0 A1 A2 : Type} (I : A0 → A1 → A2 → Prop) (E : A0 → A1 → A2 → Env) (N : Nat) (G : A0 → A1 → A2 → Heap) (h1 : W P c a env nx H (thenP (fun env' _ H' => ∃ y0 y1 y2, (I y0 y1 y2) ∧ Emb c.k (E y0 y1 y2) N (G y0 y1 y2) env' H') Q)) (h2 : ∀ a0 a1 a2, (I a0 a1 a2) → W P c b (E a0 a1 a2) N (G a0 a1 a2) Q) : W P c (.seq a b) env nx H Q :=
  w_join (α := A0 × A1 × A2) (fun x => (I x.1 x.2.1 x.2.2)) (fun x => (E x.1 x.2.1 x.2.2)) (fun _ => N) (fun x => (G x.1 x.2.1 x.2.2)) (h1.mono fun e env nx H h => by
    cases e with
    | normal => obtain ⟨y0, y1, y2, q1, q3⟩ := h; exact ⟨(y0, y1, y2), q1, q3⟩
    | exit i => exact h
    | ret => exact h) fun x hx => h2 x.1 x.2.1 x.2.2 hx
theorem loop4 {A0 A1 A2 A3 : Type} (I : A0 → A1 → A2 → A3 → Prop) (E : A0 → A1 → A2 → A3 → Env) (N : Nat) (G : A0 → A1 → A2 → A3 → Heap) (μ : A0 → A1 → A2 → A3 → Nat) (z0 : A0) (z1 : A1) (z2 : A2) (z3 : A3) (hI : (I z0 z1 z2 z3)) (h0 : Emb c.k (E z0 z1 z2 z3) N (G z0 z1 z2 z3) env H)
    (round : ∀ a0 a1 a2 a3, (I a0 a1 a2 a3) → W P c body (E a0 a1 a2 a3) N (G a0 a1 a2 a3) (thenP (fun env' _ H' => ∃ y0 y1 y2 y3, (I y0 y1 y2 y3) ∧ (μ y0 y1 y2 y3) < (μ a0 a1 a2 a3) ∧ Emb c.k (E y0 y1 y2 y3) N (G y0 y1 y2 y3) env' H') Q)) : W P c (.loop body) env nx H Q :=
  w_loop (α := A0 × A1 × A2 × A3) (fun x => (I x.1 x.2.1 x.2.2.1 x.2.2.2)) (fun x => (E x.1 x.2.1 x.2.2.1 x.2.2.2)) (fun _ => N) (fun x => (G x.1 x.2.1 x.2.2.1 x.2.2.2)) (fun x => (μ x.1 x.2.1 x.2.2.1 x.2.2.2)) (z0, z1, z2, z3) hI h0 fun x hx => (round x.1 x.2.1 x.2.2.1 x.2.2.2 hx).mono fun e env nx H h => by
    cases e with
    | normal => obtain ⟨y0, y1, y2, y3, q1, q2, q3⟩ := h; exact ⟨(y0, y1, y2, y3), q1, q2, q3⟩
    | exit i => exact h
    | ret => exact h
theorem join4 {A0 A1 A2 A3 : Type} (I : A0 → A1 → A2 → A3 → Prop) (E : A0 → A1 → A2 → A3 → Env) (N : Nat) (G : A0 → A1 → A2 → A3 → Heap) (h1 : W P c a env nx H (thenP (fun env' _ H' => ∃ y0 y1 y2 y3, (I y0 y1 y2 y3) ∧ Emb c.k (E y0 y1 y2 y3) N (G y0 y1 y2 y3) env' H') Q)) (h2 : ∀ a0 a1 a2 a3, (I a0 a1 a2 a3) → W P c b (E a0 a1 a2 a3) N (G a0 a1 a2 a3) Q) : W P c (.seq a b) env nx H Q :=
  w_join (α := A0 × A1 × A2 × A3) (fun x => (I x.1 x.2.1 x.2.2.1 x.2.2.2)) (fun x => (E x.1 x.2.1 x.2.2.1 x.2.2.2)) (fun _ => N) (fun x => (G x.1 x.2.1 x.2.2.1 x.2.2.2)) (h1.mono fun e env nx H h => by
    cases e with
    | normal => obtain ⟨y0, y1, y2, y3, q1, q3⟩ := h; exact ⟨(y0, y1, y2, y3), q1, q3⟩
    | exit i => exact h
    | ret => exact h) fun x hx => h2 x.1 x.2.1 x.2.2.1 x.2.2.2 hx
theorem loop5 {A0 A1 A2 A3 A4 : Type} (I : A0 → A1 → A2 → A3 → A4 → Prop) (E : A0 → A1 → A2 → A3 → A4 → Env) (N : Nat) (G : A0 → A1 → A2 → A3 → A4 → Heap) (μ : A0 → A1 → A2 → A3 → A4 → Nat) (z0 : A0) (z1 : A1) (z2 : A2) (z3 : A3) (z4 : A4) (hI : (I z0 z1 z2 z3 z4)) (h0 : Emb c.k (E z0 z1 z2 z3 z4) N (G z0 z1 z2 z3 z4) env H)
    (round : ∀ a0 a1 a2 a3 a4, (I a0 a1 a2 a3 a4) → W P c body (E a0 a1 a2 a3 a4) N (G a0 a1 a2 a3 a4) (thenP (fun env' _ H' => ∃ y0 y1 y2 y3 y4, (I y0 y1 y2 y3 y4) ∧ (μ y0 y1 y2 y3 y4) < (μ a0 a1 a2 a3 a4) ∧ Emb c.k (E y0 y1 y2 y3 y4) N (G y0 y1 y2 y3 y4) env' H') Q)) : W P c (.loop body) env nx H Q :=
  w_loop (α := A0 × A1 × A2 × A3 × A4) (fun x => (I x.1 x.2.1 x.2.2.1 x.2.2.2.1 x.2.2.2.2)) (fun x => (E x.1 x.2.1 x.2.2.1 x.2.2.2.1 x.2.2.2.2)) (fun _ => N) (fun x => (G x.1 x.2.1 x.2.2.1 x.2.2.2.1 x.2.2.2.2)) (fun x => (μ x.1 x.2.1 x.2.2.1 x.2.2.2.1 x.2.2.2.2)) (z0, z1, z2, z3, z4) hI h0 fun x hx => (round x.1 x.2.1 x.2.2.1 x.2.2.2.1 x.2.2.2.2 hx).mono fun e env nx H h => by
    cases e with
    | normal => obtain ⟨y0, y1, y2, y3, y4, q1, q2, q3⟩ := h; exact ⟨(y0, y1, y2, y3, y4), q1, q2, q3⟩
    | exit i => exact h
    | ret => exact h
theorem join5 {A0 A1 A2 A3 A4 : Type} (I : A0 → A1 → A2 → A3 → A4 → Prop) (E : A0 → A1 → A2 → A3 → A4 → Env) (N : Nat) (G : A0 → A1 → A2 → A3 → A4 → Heap) (h1 : W P c a env nx H (thenP (fun env' _ H' => ∃ y0 y1 y2 y3 y4, (I y0 y1 y2 y3 y4) ∧ Emb c.k (E y0 y1 y2 y3 y4) N (G y0 y1 y2 y3 y4) env' H') Q)) (h2 : ∀ a0 a1 a2 a3 a4, (I a0 a1 a2 a3 a4) → W P c b (E a0 a1 a2 a3 a4) N (G a0 a1 a2 a3 a4) Q) : W P c (.seq a b) env nx H Q :=
  w_join (α := A0 × A1 × A2 × A3 × A4) (fun x => (I x.1 x.2.1 x.2.2.1 x.2.2.2.1 x.2.2.2.2)) (fun x => (E x.1 x.2.1 x.2.2.1 x.2.2.2.1 x.2.2.2.2)) (fun _ => N) (fun x => (G x.1 x.2.1 x.2.2.1 x.2.2.2.1 x.2.2.2.2)) (h1.mono fun e env nx H h => by
    cases e with
    | normal => obtain ⟨y0, y1, y2, y3, y4, q1, q3⟩ := h; exact ⟨(y0, y1, y2, y3, y4), q1, q3⟩
    | exit i => exact h
    | ret => exact h) fun x hx => h2 x.1 x.2.1 x.2.2.1 x.2.2.2.1 x.2.2.2.2 hx
theorem loop6 {A0 A1 A2 A3 A4 A5 : Type} (I : A0 → A1 → A2 → A3 → A4 → A5 → Prop) (E : A0 → A1 → A2 → A3 → A4 → A5 → Env) (N : Nat) (G : A0 → A1 → A2 → A3 → A4 → A5 → Heap) (μ : A0 → A1 → A2 → A3 → A4 → A5 → Nat) (z0 : A0) (z1 : A1) (z2 : A2) (z3 : A3) (z4 : A4) (z5 : A5) (hI : (I z0 z1 z2 z3 z4 z5)) (h0 : Emb c.k (E z0 z1 z2 z3 z4 z5) N (G z0 z1 z2 z3 z4 z5) env H)
    (round : ∀ a0 a1 a2 a3 a4 a5, (I a0 a1 a2 a3 a4 a5) → W P c body (E a0 a1 a2 a3 a4 a5) N (G a0 a1 a2 a3 a4 a5) (thenP (fun env' _ H' => ∃ y0 y1 y2 y3 y4 y5, (I y0 y1 y2 y3 y4 y5) ∧ (μ y0 y1 y2 y3 y4 y5) < (μ a0 a1 a2 a3 a4 a5) ∧ Emb c.k (E y0 y1 y2 y3 y4 y5) N (G y0 y1 y2 y3 y4 y5) env' H') Q)) : W P c (.loop body) env nx H Q :=
  w_loop (α := A0 × A1 × A2 × A3 × A4 × A5) (fun x => (I x.1 x.2.1 x.2.2.1 x.2.2.2.1 x.2.2.2.2.1 x.2.2.2.2.2)) (fun x => (E x.1 x.2.1 x.2.2.1 x.2.2.2.1 x.2.2.2.2.1 x.2.2.2.2.2)) (fun _ => N) (fun x => (G x.1 x.2.1 x.2.2.1 x.2.2.2.1 x.2.2.2.2.1 x.2.2.2.2.2)) (fun x => (μ x.1 x.2.1 x.2.2.1 x.2.2.2.1 x.2.2.2.2.1 x.2.2.2.2.2)) (z0, z1, z2, z3, z4, z5) hI h0 fun x hx => (round x.1 x.2.1 x.2.2.1 x.2.2.2.1 x.2.2.2.2.1 x.2.2.2.2.2 hx).mono fun e env nx H h => by
    cases e with
    | normal => obtain ⟨y0, y1, y2, y3, y4, y5, q1, q2, q3⟩ := h; exact ⟨(y0, y1, y2, y3, y4, y5), q1, q2, q3⟩
    | exit i => exact h
    | ret => exact h
theorem join6 {A0 A1 A2 A3 A4 A5 : Type} (I : A0 → A1 → A2 → A3 → A4 → A5 → Prop) (E : A0 → A1 → A2 → A3 → A4 → A5 → Env) (N : Nat) (G : A0 → A1 → A2 → A3 → A4 → A5 → Heap) (h1 : W P c a env nx H (thenP (fun env' _ H' => ∃ y0 y1 y2 y3 y4 y5, (I y0 y1 y2 y3 y4 y5) ∧ Emb c.k (E y0 y1 y2 y3 y4 y5) N (G y0 y1 y2 y3 y4 y5) env' H') Q)) (h2 : ∀ a0 a1 a2 a3 a4 a5, (I a0 a1 a2 a3 a4 a5) → W P c b (E a0 a1 a2 a3 a4 a5) N (G a0 a1 a2 a3 a4 a5) Q) : W P c (.seq a b) env nx H Q :=
  w_join (α := A0 × A1 × A2 × A3 × A4 × A5) (fun x => (I x.1 x.2.1 x.2.2.1 x.2.2.2.1 x.2.2.2.2.1 x.2.2.2.2.2)) (fun x => (E x.1 x.2.1 x.2.2.1 x.2.2.2.1 x.2.2.2.2.1 x.2.2.2.2.2)) (fun _ => N) (fun x => (G x.1 x.2.1 x.2.2.1 x.2.2.2.1 x.2.2.2.2.1 x.2.2.2.2.2)) (h1.mono fun e env nx H h => by
    cases e with
    | normal => obtain ⟨y0, y1, y2, y3, y4, y5, q1, q3⟩ := h; exact ⟨(y0, y1, y2, y3, y4, y5), q1, q3⟩
    | exit i => exact h
    | ret => exact h) fun x hx => h2 x.1 x.2.1 x.2.2.1 x.2.2.2.1 x.2.2.2.2.1 x.2.2.2.2.2 hx
theorem loop7 {A0 A1 A2 A3 A4 A5 A6 : Type} (I : A0 → A1 → A2 → A3 → A4 → A5 → A6 → Prop) (E : A0 → A1 → A2 → A3 → A4 → A5 → A6 → Env) (N : Nat) (G : A0 → A1 → A2 → A3 → A4 → A5 → A6 → Heap) (μ : A0 → A1 → A2 → A3 → A4 → A5 → A6 → Nat) (z0 : A0) (z1 : A1) (z2 : A2) (z3 : A3) (z4 : A4) (z5 : A5) (z6 : A6) (hI : (I z0 z1 z2 z3 z4 z5 z6)) (h0 : Emb c.k (E z0 z1 z2 z3 z4 z5 z6) N (G z0 z1 z2 z3 z4 z5 z6) env H)
    (round : ∀ a0 a1 a2 a3 a4 a5 a6, (I a0 a1 a2 a3 a4 a5 a6) → W P c body (E a0 a1 a2 a3 a4 a5 a6) N (G a0 a1 a2 a3 a4 a5 a6) (thenP (fun env' _ H' => ∃ y0 y1 y2 y3 y4 y5 y6, (I y0 y1 y2 y3 y4 y5 y6) ∧ (μ y0 y1 y2 y3 y4 y5 y6) < (μ a0 a1 a2 a3 a4 a5 a6) ∧ Emb c.k (E y0 y1 y2 y3 y4 y5 y6) N (G y0 y1 y2 y3 y4 y5 y6) env' H') Q)) : W P c (.loop body) env nx H Q :=
  w_loop (α := A0 × A1 × A2 × A3 × A4 × A5 × A6) (fun x => (I x.1 x.2.1 x.2.2.1 x.2.2.2.1 x.2.2.2.2.1 x.2.2.2.2.2.1 x.2.2.2.2.2.2)) (fun x => (E x.1 x.2.1 x.2.2.1 x.2.2.2.1 x.2.2.2.2.1 x.2.2.2.2.2.1 x.2.2.2.2.2.2)) (fun _ => N) (fun x => (G x.1 x.2.1 x.2.2.1 x.2.2.2.1 x.2.2.2.2.1 x.2.2.2.2.2.1 x.2.2.2.2.2.2)) (fun x => (μ x.1 x.2.1 x.2.2.1 x.2.2.2.1 x.2.2.2.2.1 x.2.2.2.2.2.1 x.2.2.2.2.2.2)) (z0, z1, z2, z3, z4, z5, z6) hI h0 fun x hx => (round x.1 x.2.1 x.2.2.1 x.2.2.2.1 x.2.2.2.2.1 x.2.2.2.2.2.1 x.2.2.2.2.2.2 hx).mono fun e env nx H h => by
    cases e with
    | normal => obtain ⟨y0, y1, y2, y3, y4, y5, y6, q1, q2, q3⟩ := h; exact ⟨(y0, y1, y2, y3, y4, y5, y6), q1, q2, q3⟩
    | exit i => exact h
    | ret => exact h
theorem join7 {A0 A1 A2 A3 A4 A5 A6 : Type} (I : A0 → A1 → A2 → A3 → A4 → A5 → A6 → Prop) (E : A0 → A1 → A2 → A3 → A4 → A5 → A6 → Env) (N : Nat) (G : A0 → A1 → A2 → A3 → A4 → A5 → A6 → Heap) (h1 : W P c a env nx H (thenP (fun env' _ H' => ∃ y0 y1 y2 y3 y4 y5 y6, (I y0 y1 y2 y3 y4 y5 y6) ∧ Emb c.k (E y0 y1 y2 y3 y4 y5 y6) N (G y0 y1 y2 y3 y4 y5 y6) env' H') Q)) (h2 : ∀ a0 a1 a2 a3 a4 a5 a6, (I a0 a1 a2 a3 a4 a5 a6) → W P c b (E a0 a1 a2 a3 a4 a5 a6) N (G a0 a1 a2 a3 a4 a5 a6) Q) : W P c (.seq a b) env nx H Q :=
  w_join (α := A0 × A1 × A2 × A3 × A4 × A5 × A6) (fun x => (I x.1 x.2.1 x.2.2.1 x.2.2.2.1 x.2.2.2.2.1 x.2.2.2.2.2.1 x.2.2.2.2.2.2)) (fun x => (E x.1 x.2.1 x.2.2.1 x.2.2.2.1 x.2.2.2.2.1 x.2.2.2.2.2.1 x.2.2.2.2.2.2)) (fun _ => N) (fun x => (G x.1 x.2.1 x.2.2.1 x.2.2.2.1 x.2.2.2.2.1 x.2.2.2.2.2.1 x.2.2.2.2.2.2)) (h1.mono fun e env nx H h => by
    cases e with
    | normal => obtain ⟨y0, y1, y2, y3, y4, y5, y6, q1, q3⟩ := h; exact ⟨(y0, y1, y2, y3, y4, y5, y6), q1, q3⟩
    | exit i => exact h
    | ret => exact h) fun x hx => h2 x.1 x.2.1 x.2.2.1 x.2.2.2.1 x.2.2.2.2.1 x.2.2.2.2.2.1 x.2.2.2.2.2.2 hx
theorem loop8 {A0 A1 A2 A3 A4 A5 A6 A7 : Type} (I : A0 → A1 → A2 → A3 → A4 → A5 → A6 → A7 → Prop) (E : A0 → A1 → A2 → A3 → A4 → A5 → A6 → A7 → Env) (N : Nat) (G : A0 → A1 → A2 → A3 → A4 → A5 → A6 → A7 → Heap) (μ : A0 → A1 → A2 → A3 → A4 → A5 → A6 → A7 → Nat) (z0 : A0) (z1 : A1) (z2 : A2) (z3 : A3) (z4 : A4) (z5 : A5) (z6 : A6) (z7 : A7) (hI : (I z0 z1 z2 z3 z4 z5 z6 z7)) (h0 : Emb c.k (E z0 z1 z2 z3 z4 z5 z6 z7) N (G z0 z1 z2 z3 z4 z5 z6 z7) env H)
    (round : ∀ a0 a1 a2 a3 a4 a5 a6 a7, (I a0 a1 a2 a3 a4 a5 a6 a7) → W P c body (E a0 a1 a2 a3 a4 a5 a6 a7) N (G a0 a1 a2 a3 a4 a5 a6 a7) (thenP (fun env' _ H' => ∃ y0 y1 y2 y3 y4 y5 y6 y7, (I y0 y1 y2 y3 y4 y5 y6 y7) ∧ (μ y0 y1 y2 y3 y4 y5 y6 y7) < (μ a0 a1 a2 a3 a4 a5 a6 a7) ∧ Emb c.k (E y0 y1 y2 y3 y4 y5 y6 y7) N (G y0 y1 y2 y3 y4 y5 y6 y7) env' H') Q)) : W P c (.loop body) env nx H Q :=
  w_loop (α := A0 × A1 × A2 × A3 × A4 × A5 × A6 × A7) (fun x => (I x.1 x.2.1 x.2.2.1 x.2.2.2.1 x.2.2.2.2.1 x.2.2.2.2.2.1 x.2.2.2.2.2.2.1 x.2.2.2.2.2.2.2)) (fun x => (E x.1 x.2.1 x.2.2.1 x.2.2.2.1 x.2.2.2.2.1 x.2.2.2.2.2.1 x.2.2.2.2.2.2.1 x.2.2.2.2.2.2.2)) (fun _ => N) (fun x => (G x.1 x.2.1 x.2.2.1 x.2.2.2.1 x.2.2.2.2.1 x.2.2.2.2.2.1 x.2.2.2.2.2.2.1 x.2.2.2.2.2.2.2)) (fun x => (μ x.1 x.2.1 x.2.2.1 x.2.2.2.1 x.2.2.2.2.1 x.2.2.2.2.2.1 x.2.2.2.2.2.2.1 x.2.2.2.2.2.2.2)) (z0, z1, z2, z3, z4, z5, z6, z7) hI h0 fun x hx => (round x.1 x.2.1 x.2.2.1 x.2.2.2.1 x.2.2.2.2.1 x.2.2.2.2.2.1 x.2.2.2.2.2.2.1 x.2.2.2.2.2.2.2 hx).mono fun e env nx H h => by
    cases e with
    | normal => obtain ⟨y0, y1, y2, y3, y4, y5, y6, y7, q1, q2, q3⟩ := h; exact ⟨(y0, y1, y2, y3, y4, y5, y6, y7), q1, q2, q3⟩
    | exit i => exact h
    | ret => exact h
theorem join8 {A0 A1 A2 A3 A4 A5 A6 A7 : Type} (I : A0 → A1 → A2 → A3 → A4 → A5 → A6 → A7 → Prop) (E : A0 → A1 → A2 → A3 → A4 → A5 → A6 → A7 → Env) (N : Nat) (G : A0 → A1 → A2 → A3 → A4 → A5 → A6 → A7 → Heap) (h1 : W P c a env nx H (thenP (fun env' _ H' => ∃ y0 y1 y2 y3 y4 y5 y6 y7, (I y0 y1 y2 y3 y4 y5 y6 y7) ∧ Emb c.k (E y0 y1 y2 y3 y4 y5 y6 y7) N (G y0 y1 y2 y3 y4 y5 y6 y7) env' H') Q)) (h2 : ∀ a0 a1 a2 a3 a4 a5 a6 a7, (I a0 a1 a2 a3 a4 a5 a6 a7) → W P c b (E a0 a1 a2 a3 a4 a5 a6 a7) N (G a0 a1 a2 a3 a4 a5 a6 a7) Q) : W P c (.seq a b) env nx H Q :=
  w_join (α := A0 × A1 × A2 × A3 × A4 × A5 × A6 × A7) (fun x => (I x.1 x.2.1 x.2.2.1 x.2.2.2.1 x.2.2.2.2.1 x.2.2.2.2.2.1 x.2.2.2.2.2.2.1 x.2.2.2.2.2.2.2)) (fun x => (E x.1 x.2.1 x.2.2.1 x.2.2.2.1 x.2.2.2.2.1 x.2.2.2.2.2.1 x.2.2.2.2.2.2.1 x.2.2.2.2.2.2.2)) (fun _ => N) (fun x => (G x.1 x.2.1 x.2.2.1 x.2.2.2.1 x.2.2.2.2.1 x.2.2.2.2.2.1 x.2.2.2.2.2.2.1 x.2.2.2.2.2.2.2)) (h1.mono fun e env nx H h => by
    cases e with
    | normal => obtain ⟨y0, y1, y2, y3, y4, y5, y6, y7, q1, q3⟩ := h; exact ⟨(y0, y1, y2, y3, y4, y5, y6, y7), q1, q3⟩
    | exit i => exact h
    | ret => exact h) fun x hx => h2 x.1 x.2.1 x.2.2.1 x.2.2.2.1 x.2.2.2.2.1 x.2.2.2.2.2.1 x.2.2.2.2.2.2.1 x.2.2.2.2.2.2.2 hx
theorem loop9 {A0 A1 A2 A3 A4 A5 A6 A7 A8 : Type} (I : A0 → A1 → A2 → A3 → A4 → A5 → A6 → A7 → A8 → Prop) (E : A0 → A1 → A2 → A3 → A4 → A5 → A6 → A7 → A8 → Env) (N : Nat) (G : A0 → A1 → A2 → A3 → A4 → A5 → A6 → A7 → A8 → Heap) (μ : A0 → A1 → A2 → A3 → A4 → A5 → A6 → A7 → A8 → Nat) (z0 : A0) (z1 : A1) (z2 : A2) (z3 : A3) (z4 : A4) (z5 : A5) (z6 : A6) (z7 : A7) (z8 : A8) (hI : (I z0 z1 z2 z3 z4 z5 z6 z7 z8)) (h0 : Emb c.k (E z0 z1 z2 z3 z4 z5 z6 z7 z8) N (G z0 z1 z2 z3 z4 z5 z6 z7 z8) env H)
    (round : ∀ a0 a1 a2 a3 a4 a5 a6 a7 a8, (I a0 a1 a2 a3 a4 a5 a6 a7 a8) → W P c body (E a0 a1 a2 a3 a4 a5 a6 a7 a8) N (G a0 a1 a2 a3 a4 a5 a6 a7 a8) (thenP (fun env' _ H' => ∃ y0 y1 y2 y3 y4 y5 y6 y7 y8, (I y0 y1 y2 y3 y4 y5 y6 y7 y8) ∧ (μ y0 y1 y2 y3 y4 y5 y6 y7 y8) < (μ a0 a1 a2 a3 a4 a5 a6 a7 a8) ∧ Emb c.k (E y0 y1 y2 y3 y4 y5 y6 y7 y8) N (G y0 y1 y2 y3 y4 y5 y6 y7 y8) env' H') Q)) : W P c (.loop body) env nx H Q :=
  w_loop (α := A0 × A1 × A2 × A3 × A4 × A5 × A6 × A7 × A8) (fun x => (I x.1 x.2.1 x.2.2.1 x.2.2.2.1 x.2.2.2.2.1 x.2.2.2.2.2.1 x.2.2.2.2.2.2.1 x.2.2.2.2.2.2.2.1 x.2.2.2.2.2.2.2.2)) (fun x => (E x.1 x.2.1 x.2.2.1 x.2.2.2.1 x.2.2.2.2.1 x.2.2.2.2.2.1 x.2.2.2.2.2.2.1 x.2.2.2.2.2.2.2.1 x.2.2.2.2.2.2.2.2)) (fun _ => N) (fun x => (G x.1 x.2.1 x.2.2.1 x.2.2.2.1 x.2.2.2.2.1 x.2.2.2.2.2.1 x.2.2.2.2.2.2.1 x.2.2.2.2.2.2.2.1 x.2.2.2.2.2.2.2.2)) (fun x => (μ x.1 x.2.1 x.2.2.1 x.2.2.2.1 x.2.2.2.2.1 x.2.2.2.2.2.1 x.2.2.2.2.2.2.1 x.2.2.2.2.2.2.2.1 x.2.2.2.2.2.2.2.2)) (z0, z1, z2, z3, z4, z5, z6, z7, z8) hI h0 fun x hx => (round x.1 x.2.1 x.2.2.1 x.2.2.2.1 x.2.2.2.2.1 x.2.2.2.2.2.1 x.2.2.2.2.2.2.1 x.2.2.2.2.2.2.2.1 x.2.2.2.2.2.2.2.2 hx).mono fun e env nx H h => by
    cases e with
    | normal => obtain ⟨y0, y1, y2, y3, y4, y5, y6, y7, y8, q1, q2, q3⟩ := h; exact ⟨(y0, y1, y2, y3, y4, y5, y6, y7, y8), q1, q2, q3⟩
    | exit i => exact h
    | ret => exact h
theorem join9 {A0 A1 A2 A3 A4 A5 A6 A7 A8 : Type} (I : A0 → A1 → A2 → A3 → A4 → A5 → A6 → A7 → A8 → Prop) (E : A0 → A1 → A2 → A3 → A4 → A5 → A6 → A7 → A8 → Env) (N : Nat) (G : A0 → A1 → A2 → A3 → A4 → A5 → A6 → A7 → A8 → Heap) (h1 : W P c a env nx H (thenP (fun env' _ H' => ∃ y0 y1 y2 y3 y4 y5 y6 y7 y8, (I y0 y1 y2 y3 y4 y5 y6 y7 y8) ∧ Emb c.k (E y0 y1 y2 y3 y4 y5 y6 y7 y8) N (G y0 y1 y2 y3 y4 y5 y6 y7 y8) env' H') Q)) (h2 : ∀ a0 a1 a2 a3 a4 a5 a6 a7 a8, (I a0 a1 a2 a3 a4 a5 a6 a7 a8) → W P c b (E a0 a1 a2 a3 a4 a5 a6 a7 a8) N (G a0 a1 a2 a3 a4 a5 a6 a7 a8) Q) : W P c (.seq a b) env nx H Q :=
  w_join (α := A0 × A1 × A2 × A3 × A4 × A5 × A6 × A7 × A8) (fun x => (I x.1 x.2.1 x.2.2.1 x.2.2.2.1 x.2.2.2.2.1 x.2.2.2.2.2.1 x.2.2.2.2.2.2.1 x.2.2.2.2.2.2.2.1 x.2.2.2.2.2.2.2.2)) (fun x => (E x.1 x.2.1 x.2.2.1 x.2.2.2.1 x.2.2.2.2.1 x.2.2.2.2.2.1 x.2.2.2.2.2.2.1 x.2.2.2.2.2.2.2.1 x.2.2.2.2.2.2.2.2)) (fun _ => N) (fun x => (G x.1 x.2.1 x.2.2.1 x.2.2.2.1 x.2.2.2.2.1 x.2.2.2.2.2.1 x.2.2.2.2.2.2.1 x.2.2.2.2.2.2.2.1 x.2.2.2.2.2.2.2.2)) (h1.mono fun e env nx H h => by
    cases e with
    | normal => obtain ⟨y0, y1, y2, y3, y4, y5, y6, y7, y8, q1, q3⟩ := h; exact ⟨(y0, y1, y2, y3, y4, y5, y6, y7, y8), q1, q3⟩
    | exit i => exact h
    | ret => exact h) fun x hx => h2 x.1 x.2.1 x.2.2.1 x.2.2.2.1 x.2.2.2.2.1 x.2.2.2.2.2.1 x.2.2.2.2.2.2.1 x.2.2.2.2.2.2.2.1 x.2.2.2.2.2.2.2.2 hx
theorem loop10 {A0 A1 A2 A3 A4 A5 A6 A7 A8 A9 : Type} (I : A0 → A1 → A2 → A3 → A4 → A5 → A6 → A7 → A8 → A9 → Prop) (E : A0 → A1 → A2 → A3 → A4 → A5 → A6 → A7 → A8 → A9 → Env) (N : Nat) (G : A0 → A1 → A2 → A3 → A4 → A5 → A6 → A7 → A8 → A9 → Heap) (μ : A0 → A1 → A2 → A3 → A4 → A5 → A6 → A7 → A8 → A9 → Nat) (z0 : A0) (z1 : A1) (z2 : A2) (z3 : A3) (z4 : A4) (z5 : A5) (z6 : A6) (z7 : A7) (z8 : A8) (z9 : A9) (hI : (I z0 z1 z2 z3 z4 z5 z6 z7 z8 z9)) (h0 : Emb c.k (E z0 z1 z2 z3 z4 z5 z6 z7 z8 z9) N (G z0 z1 z2 z3 z4 z5 z6 z7 z8 z9) env H)
    (round : ∀ a0 a1 a2 a3 a4 a5 a6 a7 a8 a9, (I a0 a1 a2 a3 a4 a5 a6 a7 a8 a9) → W P c body (E a0 a1 a2 a3 a4 a5 a6 a7 a8 a9) N (G a0 a1 a2 a3 a4 a5 a6 a7 a8 a9) (thenP (fun env' _ H' => ∃ y0 y1 y2 y3 y4 y5 y6 y7 y8 y9, (I y0 y1 y2 y3 y4 y5 y6 y7 y8 y9) ∧ (μ y0 y1 y2 y3 y4 y5 y6 y7 y8 y9) < (μ a0 a1 a2 a3 a4 a5 a6 a7 a8 a9) ∧ Emb c.k (E y0 y1 y2 y3 y4 y5 y6 y7 y8 y9) N (G y0 y1 y2 y3 y4 y5 y6 y7 y8 y9) env' H') Q)) : W P c (.loop body) env nx H Q :=
  w_loop (α := A0 × A1 × A2 × A3 × A4 × A5 × A6 × A7 × A8 × A9) (fun x => (I x.1 x.2.1 x.2.2.1 x.2.2.2.1 x.2.2.2.2.1 x.2.2.2.2.2.1 x.2.2.2.2.2.2.1 x.2.2.2.2.2.2.2.1 x.2.2.2.2.2.2.2.2.1 x.2.2.2.2.2.2.2.2.2)) (fun x => (E x.1 x.2.1 x.2.2.1 x.2.2.2.1 x.2.2.2.2.1 x.2.2.2.2.2.1 x.2.2.2.2.2.2.1 x.2.2.2.2.2.2.2.1 x.2.2.2.2.2.2.2.2.1 x.2.2.2.2.2.2.2.2.2)) (fun _ => N) (fun x => (G x.1 x.2.1 x.2.2.1 x.2.2.2.1 x.2.2.2.2.1 x.2.2.2.2.2.1 x.2.2.2.2.2.2.1 x.2.2.2.2.2.2.2.1 x.2.2.2.2.2.2.2.2.1 x.2.2.2.2.2.2.2.2.2)) (fun x => (μ x.1 x.2.1 x.2.2.1 x.2.2.2.1 x.2.2.2.2.1 x.2.2.2.2.2.1 x.2.2.2.2.2.2.1 x.2.2.2.2.2.2.2.1 x.2.2.2.2.2.2.2.2.1 x.2.2.2.2.2.2.2.2.2)) (z0, z1, z2, z3, z4, z5, z6, z7, z8, z9) hI h0 fun x hx => (round x.1 x.2.1 x.2.2.1 x.2.2.2.1 x.2.2.2.2.1 x.2.2.2.2.2.1 x.2.2.2.2.2.2.1 x.2.2.2.2.2.2.2.1 x.2.2.2.2.2.2.2.2.1 x.2.2.2.2.2.2.2.2.2 hx).mono fun e env nx H h => by
    cases e with
    | normal => obtain ⟨y0, y1, y2, y3, y4, y5, y6, y7, y8, y9, q1, q2, q3⟩ := h; exact ⟨(y0, y1, y2, y3, y4, y5, y6, y7, y8, y9), q1, q2, q3⟩
    | exit i => exact h
    | ret => exact h
theorem join10 {A0 A1 A2 A3 A4 A5 A6 A7 A8 A9 : Type} (I : A0 → A1 → A2 → A3 → A4 → A5 → A6 → A7 → A8 → A9 → Prop) (E : A0 → A1 → A2 → A3 → A4 → A5 → A6 → A7 → A8 → A9 → Env) (N : Nat) (G : A0 → A1 → A2 → A3 → A4 → A5 → A6 → A7 → A8 → A9 → Heap) (h1 : W P c a env nx H (thenP (fun env' _ H' => ∃ y0 y1 y2 y3 y4 y5 y6 y7 y8 y9, (I y0 y1 y2 y3 y4 y5 y6 y7 y8 y9) ∧ Emb c.k (E y0 y1 y2 y3 y4 y5 y6 y7 y8 y9) N (G y0 y1 y2 y3 y4 y5 y6 y7 y8 y9) env' H') Q)) (h2 : ∀ a0 a1 a2 a3 a4 a5 a6 a7 a8 a9, (I a0 a1 a2 a3 a4 a5 a6 a7 a8 a9) → W P c b (E a0 a1 a2 a3 a4 a5 a6 a7 a8 a9) N (G a0 a1 a2 a3 a4 a5 a6 a7 a8 a9) Q) : W P c (.seq a b) env nx H Q :=
  w_join (α := A0 × A1 × A2 × A3 × A4 × A5 × A6 × A7 × A8 × A9) (fun x => (I x.1 x.2.1 x.2.2.1 x.2.2.2.1 x.2.2.2.2.1 x.2.2.2.2.2.1 x.2.2.2.2.2.2.1 x.2.2.2.2.2.2.2.1 x.2.2.2.2.2.2.2.2.1 x.2.2.2.2.2.2.2.2.2)) (fun x => (E x.1 x.2.1 x.2.2.1 x.2.2.2.1 x.2.2.2.2.1 x.2.2.2.2.2.1 x.2.2.2.2.2.2.1 x.2.2.2.2.2.2.2.1 x.2.2.2.2.2.2.2.2.1 x.2.2.2.2.2.2.2.2.2)) (fun _ => N) (fun x => (G x.1 x.2.1 x.2.2.1 x.2.2.2.1 x.2.2.2.2.1 x.2.2.2.2.2.1 x.2.2.2.2.2.2.1 x.2.2.2.2.2.2.2.1 x.2.2.2.2.2.2.2.2.1 x.2.2.2.2.2.2.2.2.2)) (h1.mono fun e env nx H h => by
    cases e with
    | normal => obtain ⟨y0, y1, y2, y3, y4, y5, y6, y7, y8, y9, q1, q3⟩ := h; exact ⟨(y0, y1, y2, y3, y4, y5, y6, y7, y8, y9), q1, q3⟩
    | exit i => exact h
    | ret => exact h) fun x hx => h2 x.1 x.2.1 x.2.2.1 x.2.2.2.1 x.2.2.2.2.1 x.2.2.2.2.2.1 x.2.2.2.2.2.2.1 x.2.2.2.2.2.2.2.1 x.2.2.2.2.2.2.2.2.1 x.2.2.2.2.2.2.2.2.2 hx
theorem loop11 {A0 A1 A2 A3 A4 A5 A6 A7 A8 A9 A10 : Type} (I : A0 → A1 → A2 → A3 → A4 → A5 → A6 → A7 → A8 → A9 → A10 → Prop) (E : A0 → A1 → A2 → A3 → A4 → A5 → A6 → A7 → A8 → A9 → A10 → Env) (N : Nat) (G : A0 → A1 → A2 → A3 → A4 → A5 → A6 → A7 → A8 → A9 → A10 → Heap) (μ : A0 → A1 → A2 → A3 → A4 → A5 → A6 → A7 → A8 → A9 → A10 → Nat) (z0 : A0) (z1 : A1) (z2 : A2) (z3 : A3) (z4 : A4) (z5 : A5) (z6 : A6) (z7 : A7) (z8 : A8) (z9 : A9) (z10 : A10) (hI : (I z0 z1 z2 z3 z4 z5 z6 z7 z8 z9 z10)) (h0 : Emb c.k (E z0 z1 z2 z3 z4 z5 z6 z7 z8 z9 z10) N (G z0 z1 z2 z3 z4 z5 z6 z7 z8 z9 z10) env H)
    (round : ∀ a0 a1 a2 a3 a4 a5 a6 a7 a8 a9 a10, (I a0 a1 a2 a3 a4 a5 a6 a7 a8 a9 a10) → W P c body (E a0 a1 a2 a3 a4 a5 a6 a7 a8 a9 a10) N (G a0 a1 a2 a3 a4 a5 a6 a7 a8 a9 a10) (thenP (fun env' _ H' => ∃ y0 y1 y2 y3 y4 y5 y6 y7 y8 y9 y10, (I y0 y1 y2 y3 y4 y5 y6 y7 y8 y9 y10) ∧ (μ y0 y1 y2 y3 y4 y5 y6 y7 y8 y9 y10) < (μ a0 a1 a2 a3 a4 a5 a6 a7 a8 a9 a10) ∧ Emb c.k (E y0 y1 y2 y3 y4 y5 y6 y7 y8 y9 y10) N (G y0 y1 y2 y3 y4 y5 y6 y7 y8 y9 y10) env' H') Q)) : W P c (.loop body) env nx H Q :=
  w_loop (α := A0 × A1 × A2 × A3 × A4 × A5 × A6 × A7 × A8 × A9 × A10) (fun x => (I x.1 x.2.1 x.2.2.1 x.2.2.2.1 x.2.2.2.2.1 x.2.2.2.2.2.1 x.2.2.2.2.2.2.1 x.2.2.2.2.2.2.2.1 x.2.2.2.2.2.2.2.2.1 x.2.2.2.2.2.2.2.2.2.1 x.2.2.2.2.2.2.2.2.2.2)) (fun x => (E x.1 x.2.1 x.2.2.1 x.2.2.2.1 x.2.2.2.2.1 x.2.2.2.2.2.1 x.2.2.2.2.2.2.1 x.2.2.2.2.2.2.2.1 x.2.2.2.2.2.2.2.2.1 x.2.2.2.2.2.2.2.2.2.1 x.2.2.2.2.2.2.2.2.2.2)) (fun _ => N) (fun x => (G x.1 x.2.1 x.2.2.1 x.2.2.2.1 x.2.2.2.2.1 x.2.2.2.2.2.1 x.2.2.2.2.2.2.1 x.2.2.2.2.2.2.2.1 x.2.2.2.2.2.2.2.2.1 x.2.2.2.2.2.2.2.2.2.1 x.2.2.2.2.2.2.2.2.2.2)) (fun x => (μ x.1 x.2.1 x.2.2.1 x.2.2.2.1 x.2.2.2.2.1 x.2.2.2.2.2.1 x.2.2.2.2.2.2.1 x.2.2.2.2.2.2.2.1 x.2.2.2.2.2.2.2.2.1 x.2.2.2.2.2.2.2.2.2.1 x.2.2.2.2.2.2.2.2.2.2)) (z0, z1, z2, z3, z4, z5, z6, z7, z8, z9, z10) hI h0 fun x hx => (round x.1 x.2.1 x.2.2.1 x.2.2.2.1 x.2.2.2.2.1 x.2.2.2.2.2.1 x.2.2.2.2.2.2.1 x.2.2.2.2.2.2.2.1 x.2.2.2.2.2.2.2.2.1 x.2.2.2.2.2.2.2.2.2.1 x.2.2.2.2.2.2.2.2.2.2 hx).mono fun e env nx H h => by
    cases e with
    | normal => obtain ⟨y0, y1, y2, y3, y4, y5, y6, y7, y8, y9, y10, q1, q2, q3⟩ := h; exact ⟨(y0, y1, y2, y3, y4, y5, y6, y7, y8, y9, y10), q1, q2, q3⟩
    | exit i => exact h
    | ret => exact h
theorem join11 {A0 A1 A2 A3 A4 A5 A6 A7 A8 A9 A10 : Type} (I : A0 → A1 → A2 → A3 → A4 → A5 → A6 → A7 → A8 → A9 → A10 → Prop) (E : A0 → A1 → A2 → A3 → A4 → A5 → A6 → A7 → A8 → A9 → A10 → Env) (N : Nat) (G : A0 → A1 → A2 → A3 → A4 → A5 → A6 → A7 → A8 → A9 → A10 → Heap) (h1 : W P c a env nx H (thenP (fun env' _ H' => ∃ y0 y1 y2 y3 y4 y5 y6 y7 y8 y9 y10, (I y0 y1 y2 y3 y4 y5 y6 y7 y8 y9 y10) ∧ Emb c.k (E y0 y1 y2 y3 y4 y5 y6 y7 y8 y9 y10) N (G y0 y1 y2 y3 y4 y5 y6 y7 y8 y9 y10) env' H') Q)) (h2 : ∀ a0 a1 a2 a3 a4 a5 a6 a7 a8 a9 a10, (I a0 a1 a2 a3 a4 a5 a6 a7 a8 a9 a10) → W P c b (E a0 a1 a2 a3 a4 a5 a6 a7 a8 a9 a10) N (G a0 a1 a2 a3 a4 a5 a6 a7 a8 a9 a10) Q) : W P c (.seq a b) env nx H Q :=
  w_join (α := A0 × A1 × A2 × A3 × A4 × A5 × A6 × A7 × A8 × A9 × A10) (fun x => (I x.1 x.2.1 x.2.2.1 x.2.2.2.1 x.2.2.2.2.1 x.2.2.2.2.2.1 x.2.2.2.2.2.2.1 x.2.2.2.2.2.2.2.1 x.2.2.2.2.2.2.2.2.1 x.2.2.2.2.2.2.2.2.2.1 x.2.2.2.2.2.2.2.2.2.2)) (fun x => (E x.1 x.2.1 x.2.2.1 x.2.2.2.1 x.2.2.2.2.1 x.2.2.2.2.2.1 x.2.2.2.2.2.2.1 x.2.2.2.2.2.2.2.1 x.2.2.2.2.2.2.2.2.1 x.2.2.2.2.2.2.2.2.2.1 x.2.2.2.2.2.2.2.2.2.2)) (fun _ => N) (fun x => (G x.1 x.2.1 x.2.2.1 x.2.2.2.1 x.2.2.2.2.1 x.2.2.2.2.2.1 x.2.2.2.2.2.2.1 x.2.2.2.2.2.2.2.1 x.2.2.2.2.2.2.2.2.1 x.2.2.2.2.2.2.2.2.2.1 x.2.2.2.2.2.2.2.2.2.2)) (h1.mono fun e env nx H h => by
    cases e with
    | normal => obtain ⟨y0, y1, y2, y3, y4, y5, y6, y7, y8, y9, y10, q1, q3⟩ := h; exact ⟨(y0, y1, y2, y3, y4, y5, y6, y7, y8, y9, y10), q1, q3⟩
    | exit i => exact h
    | ret => exact h) fun x hx => h2 x.1 x.2.1 x.2.2.1 x.2.2.2.1 x.2.2.2.2.1 x.2.2.2.2.2.1 x.2.2.2.2.2.2.1 x.2.2.2.2.2.2.2.1 x.2.2.2.2.2.2.2.2.1 x.2.2.2.2.2.2.2.2.2.1 x.2.2.2.2.2.2.2.2.2.2 hx
theorem loop12 {A0 A1 A2 A3 A4 A5 A6 A7 A8 A9 A10 A11 : Type} (I : A0 → A1 → A2 → A3 → A4 → A5 → A6 → A7 → A8 → A9 → A10 → A11 → Prop) (E : A0 → A1 → A2 → A3 → A4 → A5 → A6 → A7 → A8 → A9 → A10 → A11 → Env) (N : Nat) (G : A0 → A1 → A2 → A3 → A4 → A5 → A6 → A7 → A8 → A9 → A10 → A11 → Heap) (μ : A0 → A1 → A2 → A3 → A4 → A5 → A6 → A7 → A8 → A9 → A10 → A11 → Nat) (z0 : A0) (z1 : A1) (z2 : A2) (z3 : A3) (z4 : A4) (z5 : A5) (z6 : A6) (z7 : A7) (z8 : A8) (z9 : A9) (z10 : A10) (z11 : A11) (hI : (I z0 z1 z2 z3 z4 z5 z6 z7 z8 z9 z10 z11)) (h0 : Emb c.k (E z0 z1 z2 z3 z4 z5 z6 z7 z8 z9 z10 z11) N (G z0 z1 z2 z3 z4 z5 z6 z7 z8 z9 z10 z11) env H)
    (round : ∀ a0 a1 a2 a3 a4 a5 a6 a7 a8 a9 a10 a11, (I a0 a1 a2 a3 a4 a5 a6 a7 a8 a9 a10 a11) → W P c body (E a0 a1 a2 a3 a4 a5 a6 a7 a8 a9 a10 a11) N (G a0 a1 a2 a3 a4 a5 a6 a7 a8 a9 a10 a11) (thenP (fun env' _ H' => ∃ y0 y1 y2 y3 y4 y5 y6 y7 y8 y9 y10 y11, (I y0 y1 y2 y3 y4 y5 y6 y7 y8 y9 y10 y11) ∧ (μ y0 y1 y2 y3 y4 y5 y6 y7 y8 y9 y10 y11) < (μ a0 a1 a2 a3 a4 a5 a6 a7 a8 a9 a10 a11) ∧ Emb c.k (E y0 y1 y2 y3 y4 y5 y6 y7 y8 y9 y10 y11) N (G y0 y1 y2 y3 y4 y5 y6 y7 y8 y9 y10 y11) env' H') Q)) : W P c (.loop body) env nx H Q :=
  w_loop (α := A0 × A1 × A2 × A3 × A4 × A5 × A6 × A7 × A8 × A9 × A10 × A11) (fun x => (I x.1 x.2.1 x.2.2.1 x.2.2.2.1 x.2.2.2.2.1 x.2.2.2.2.2.1 x.2.2.2.2.2.2.1 x.2.2.2.2.2.2.2.1 x.2.2.2.2.2.2.2.2.1 x.2.2.2.2.2.2.2.2.2.1 x.2.2.2.2.2.2.2.2.2.2.1 x.2.2.2.2.2.2.2.2.2.2.2)) (fun x => (E x.1 x.2.1 x.2.2.1 x.2.2.2.1 x.2.2.2.2.1 x.2.2.2.2.2.1 x.2.2.2.2.2.2.1 x.2.2.2.2.2.2.2.1 x.2.2.2.2.2.2.2.2.1 x.2.2.2.2.2.2.2.2.2.1 x.2.2.2.2.2.2.2.2.2.2.1 x.2.2.2.2.2.2.2.2.2.2.2)) (fun _ => N) (fun x => (G x.1 x.2.1 x.2.2.1 x.2.2.2.1 x.2.2.2.2.1 x.2.2.2.2.2.1 x.2.2.2.2.2.2.1 x.2.2.2.2.2.2.2.1 x.2.2.2.2.2.2.2.2.1 x.2.2.2.2.2.2.2.2.2.1 x.2.2.2.2.2.2.2.2.2.2.1 x.2.2.2.2.2.2.2.2.2.2.2)) (fun x => (μ x.1 x.2.1 x.2.2.1 x.2.2.2.1 x.2.2.2.2.1 x.2.2.2.2.2.1 x.2.2.2.2.2.2.1 x.2.2.2.2.2.2.2.1 x.2.2.2.2.2.2.2.2.1 x.2.2.2.2.2.2.2.2.2.1 x.2.2.2.2.2.2.2.2.2.2.1 x.2.2.2.2.2.2.2.2.2.2.2)) (z0, z1, z2, z3, z4, z5, z6, z7, z8, z9, z10, z11) hI h0 fun x hx => (round x.1 x.2.1 x.2.2.1 x.2.2.2.1 x.2.2.2.2.1 x.2.2.2.2.2.1 x.2.2.2.2.2.2.1 x.2.2.2.2.2.2.2.1 x.2.2.2.2.2.2.2.2.1 x.2.2.2.2.2.2.2.2.2.1 x.2.2.2.2.2.2.2.2.2.2.1 x.2.2.2.2.2.2.2.2.2.2.2 hx).mono fun e env nx H h => by
    cases e with
    | normal => obtain ⟨y0, y1, y2, y3, y4, y5, y6, y7, y8, y9, y10, y11, q1, q2, q3⟩ := h; exact ⟨(y0, y1, y2, y3, y4, y5, y6, y7, y8, y9, y10, y11), q1, q2, q3⟩
    | exit i => exact h
    | ret => exact h
theorem join12 {A0 A1 A2 A3 A4 A5 A6 A7 A8 A9 A10 A11 : Type} (I : A0 → A1 → A2 → A3 → A4 → A5 → A6 → A7 → A8 → A9 → A10 → A11 → Prop) (E : A0 → A1 → A2 → A3 → A4 → A5 → A6 → A7 → A8 → A9 → A10 → A11 → Env) (N : Nat) (G : A0 → A1 → A2 → A3 → A4 → A5 → A6 → A7 → A8 → A9 → A10 → A11 → Heap) (h1 : W P c a env nx H (thenP (fun env' _ H' => ∃ y0 y1 y2 y3 y4 y5 y6 y7 y8 y9 y10 y11, (I y0 y1 y2 y3 y4 y5 y6 y7 y8 y9 y10 y11) ∧ Emb c.k (E y0 y1 y2 y3 y4 y5 y6 y7 y8 y9 y10 y11) N (G y0 y1 y2 y3 y4 y5 y6 y7 y8 y9 y10 y11) env' H') Q)) (h2 : ∀ a0 a1 a2 a3 a4 a5 a6 a7 a8 a9 a10 a11, (I a0 a1 a2 a3 a4 a5 a6 a7 a8 a9 a10 a11) → W P c b (E a0 a1 a2 a3 a4 a5 a6 a7 a8 a9 a10 a11) N (G a0 a1 a2 a3 a4 a5 a6 a7 a8 a9 a10 a11) Q) : W P c (.seq a b) env nx H Q :=
  w_join (α := A0 × A1 × A2 × A3 × A4 × A5 × A6 × A7 × A8 × A9 × A10 × A11) (fun x => (I x.1 x.2.1 x.2.2.1 x.2.2.2.1 x.2.2.2.2.1 x.2.2.2.2.2.1 x.2.2.2.2.2.2.1 x.2.2.2.2.2.2.2.1 x.2.2.2.2.2.2.2.2.1 x.2.2.2.2.2.2.2.2.2.1 x.2.2.2.2.2.2.2.2.2.2.1 x.2.2.2.2.2.2.2.2.2.2.2)) (fun x => (E x.1 x.2.1 x.2.2.1 x.2.2.2.1 x.2.2.2.2.1 x.2.2.2.2.2.1 x.2.2.2.2.2.2.1 x.2.2.2.2.2.2.2.1 x.2.2.2.2.2.2.2.2.1 x.2.2.2.2.2.2.2.2.2.1 x.2.2.2.2.2.2.2.2.2.2.1 x.2.2.2.2.2.2.2.2.2.2.2)) (fun _ => N) (fun x => (G x.1 x.2.1 x.2.2.1 x.2.2.2.1 x.2.2.2.2.1 x.2.2.2.2.2.1 x.2.2.2.2.2.2.1 x.2.2.2.2.2.2.2.1 x.2.2.2.2.2.2.2.2.1 x.2.2.2.2.2.2.2.2.2.1 x.2.2.2.2.2.2.2.2.2.2.1 x.2.2.2.2.2.2.2.2.2.2.2)) (h1.mono fun e env nx H h => by
    cases e with
    | normal => obtain ⟨y0, y1, y2, y3, y4, y5, y6, y7, y8, y9, y10, y11, q1, q3⟩ := h; exact ⟨(y0, y1, y2, y3, y4, y5, y6, y7, y8, y9, y10, y11), q1, q3⟩
    | exit i => exact h
    | ret => exact h) fun x hx => h2 x.1 x.2.1 x.2.2.1 x.2.2.2.1 x.2.2.2.2.1 x.2.2.2.2.2.1 x.2.2.2.2.2.2.1 x.2.2.2.2.2.2.2.1 x.2.2.2.2.2.2.2.2.1 x.2.2.2.2.2.2.2.2.2.1 x.2.2.2.2.2.2.2.2.2.2.1 x.2.2.2.2.2.2.2.2.2.2.2 hx
theorem loop13 {A0 A1 A2 A3 A4 A5 A6 A7 A8 A9 A10 A11 A12 : Type} (I : A0 → A1 → A2 → A3 → A4 → A5 → A6 → A7 → A8 → A9 → A10 → A11 → A12 → Prop) (E : A0 → A1 → A2 → A3 → A4 → A5 → A6 → A7 → A8 → A9 → A10 → A11 → A12 → Env) (N : Nat) (G : A0 → A1 → A2 → A3 → A4 → A5 → A6 → A7 → A8 → A9 → A10 → A11 → A12 → Heap) (μ : A0 → A1 → A2 → A3 → A4 → A5 → A6 → A7 → A8 → A9 → A10 → A11 → A12 → Nat) (z0 : A0) (z1 : A1) (z2 : A2) (z3 : A3) (z4 : A4) (z5 : A5) (z6 : A6) (z7 : A7) (z8 : A8) (z9 : A9) (z10 : A10) (z11 : A11) (z12 : A12) (hI : (I z0 z1 z2 z3 z4 z5 z6 z7 z8 z9 z10 z11 z12)) (h0 : Emb c.k (E z0 z1 z2 z3 z4 z5 z6 z7 z8 z9 z10 z11 z12) N (G z0 z1 z2 z3 z4 z5 z6 z7 z8 z9 z10 z11 z12) env H)
    (round : ∀ a0 a1 a2 a3 a4 a5 a6 a7 a8 a9 a10 a11 a12, (I a0 a1 a2 a3 a4 a5 a6 a7 a8 a9 a10 a11 a12) → W P c body (E a0 a1 a2 a3 a4 a5 a6 a7 a8 a9 a10 a11 a12) N (G a0 a1 a2 a3 a4 a5 a6 a7 a8 a9 a10 a11 a12) (thenP (fun env' _ H' => ∃ y0 y1 y2 y3 y4 y5 y6 y7 y8 y9 y10 y11 y12, (I y0 y1 y2 y3 y4 y5 y6 y7 y8 y9 y10 y11 y12) ∧ (μ y0 y1 y2 y3 y4 y5 y6 y7 y8 y9 y10 y11 y12) < (μ a0 a1 a2 a3 a4 a5 a6 a7 a8 a9 a10 a11 a12) ∧ Emb c.k (E y0 y1 y2 y3 y4 y5 y6 y7 y8 y9 y10 y11 y12) N (G y0 y1 y2 y3 y4 y5 y6 y7 y8 y9 y10 y11 y12) env' H') Q)) : W P c (.loop body) env nx H Q :=
  w_loop (α := A0 × A1 × A2 × A3 × A4 × A5 × A6 × A7 × A8 × A9 × A10 × A11 × A12) (fun x => (I x.1 x.2.1 x.2.2.1 x.2.2.2.1 x.2.2.2.2.1 x.2.2.2.2.2.1 x.2.2.2.2.2.2.1 x.2.2.2.2.2.2.2.1 x.2.2.2.2.2.2.2.2.1 x.2.2.2.2.2.2.2.2.2.1 x.2.2.2.2.2.2.2.2.2.2.1 x.2.2.2.2.2.2.2.2.2.2.2.1 x.2.2.2.2.2.2.2.2.2.2.2.2)) (fun x => (E x.1 x.2.1 x.2.2.1 x.2.2.2.1 x.2.2.2.2.1 x.2.2.2.2.2.1 x.2.2.2.2.2.2.1 x.2.2.2.2.2.2.2.1 x.2.2.2.2.2.2.2.2.1 x.2.2.2.2.2.2.2.2.2.1 x.2.2.2.2.2.2.2.2.2.2.1 x.2.2.2.2.2.2.2.2.2.2.2.1 x.2.2.2.2.2.2.2.2.2.2.2.2)) (fun _ => N) (fun x => (G x.1 x.2.1 x.2.2.1 x.2.2.2.1 x.2.2.2.2.1 x.2.2.2.2.2.1 x.2.2.2.2.2.2.1 x.2.2.2.2.2.2.2.1 x.2.2.2.2.2.2.2.2.1 x.2.2.2.2.2.2.2.2.2.1 x.2.2.2.2.2.2.2.2.2.2.1 x.2.2.2.2.2.2.2.2.2.2.2.1 x.2.2.2.2.2.2.2.2.2.2.2.2)) (fun x => (μ x.1 x.2.1 x.2.2.1 x.2.2.2.1 x.2.2.2.2.1 x.2.2.2.2.2.1 x.2.2.2.2.2.2.1 x.2.2.2.2.2.2.2.1 x.2.2.2.2.2.2.2.2.1 x.2.2.2.2.2.2.2.2.2.1 x.2.2.2.2.2.2.2.2.2.2.1 x.2.2.2.2.2.2.2.2.2.2.2.1 x.2.2.2.2.2.2.2.2.2.2.2.2)) (z0, z1, z2, z3, z4, z5, z6, z7, z8, z9, z10, z11, z12) hI h0 fun x hx => (round x.1 x.2.1 x.2.2.1 x.2.2.2.1 x.2.2.2.2.1 x.2.2.2.2.2.1 x.2.2.2.2.2.2.1 x.2.2.2.2.2.2.2.1 x.2.2.2.2.2.2.2.2.1 x.2.2.2.2.2.2.2.2.2.1 x.2.2.2.2.2.2.2.2.2.2.1 x.2.2.2.2.2.2.2.2.2.2.2.1 x.2.2.2.2.2.2.2.2.2.2.2.2 hx).mono fun e env nx H h => by
    cases e with
    | normal => obtain ⟨y0, y1, y2, y3, y4, y5, y6, y7, y8, y9, y10, y11, y12, q1, q2, q3⟩ := h; exact ⟨(y0, y1, y2, y3, y4, y5, y6, y7, y8, y9, y10, y11, y12), q1, q2, q3⟩
    | exit i => exact h
    | ret => exact h
theorem join13 {A0 A1 A2 A3 A4 A5 A6 A7 A8 A9 A10 A11 A12 : Type} (I : A0 → A1 → A2 → A3 → A4 → A5 → A6 → A7 → A8 → A9 → A10 → A11 → A12 → Prop) (E : A0 → A1 → A2 → A3 → A4 → A5 → A6 → A7 → A8 → A9 → A10 → A11 → A12 → Env) (N : Nat) (G : A0 → A1 → A2 → A3 → A4 → A5 → A6 → A7 → A8 → A9 → A10 → A11 → A12 → Heap) (h1 : W P c a env nx H (thenP (fun env' _ H' => ∃ y0 y1 y2 y3 y4 y5 y6 y7 y8 y9 y10 y11 y12, (I y0 y1 y2 y3 y4 y5 y6 y7 y8 y9 y10 y11 y12) ∧ Emb c.k (E y0 y1 y2 y3 y4 y5 y6 y7 y8 y9 y10 y11 y12) N (G y0 y1 y2 y3 y4 y5 y6 y7 y8 y9 y10 y11 y12) env' H') Q)) (h2 : ∀ a0 a1 a2 a3 a4 a5 a6 a7 a8 a9 a10 a11 a12, (I a0 a1 a2 a3 a4 a5 a6 a7 a8 a9 a10 a11 a12) → W P c b (E a0 a1 a2 a3 a4 a5 a6 a7 a8 a9 a10 a11 a12) N (G a0 a1 a2 a3 a4 a5 a6 a7 a8 a9 a10 a11 a12) Q) : W P c (.seq a b) env nx H Q :=
  w_join (α := A0 × A1 × A2 × A3 × A4 × A5 × A6 × A7 × A8 × A9 × A10 × A11 × A12) (fun x => (I x.1 x.2.1 x.2.2.1 x.2.2.2.1 x.2.2.2.2.1 x.2.2.2.2.2.1 x.2.2.2.2.2.2.1 x.2.2.2.2.2.2.2.1 x.2.2.2.2.2.2.2.2.1 x.2.2.2.2.2.2.2.2.2.1 x.2.2.2.2.2.2.2.2.2.2.1 x.2.2.2.2.2.2.2.2.2.2.2.1 x.2.2.2.2.2.2.2.2.2.2.2.2)) (fun x => (E x.1 x.2.1 x.2.2.1 x.2.2.2.1 x.2.2.2.2.1 x.2.2.2.2.2.1 x.2.2.2.2.2.2.1 x.2.2.2.2.2.2.2.1 x.2.2.2.2.2.2.2.2.1 x.2.2.2.2.2.2.2.2.2.1 x.2.2.2.2.2.2.2.2.2.2.1 x.2.2.2.2.2.2.2.2.2.2.2.1 x.2.2.2.2.2.2.2.2.2.2.2.2)) (fun _ => N) (fun x => (G x.1 x.2.1 x.2.2.1 x.2.2.2.1 x.2.2.2.2.1 x.2.2.2.2.2.1 x.2.2.2.2.2.2.1 x.2.2.2.2.2.2.2.1 x.2.2.2.2.2.2.2.2.1 x.2.2.2.2.2.2.2.2.2.1 x.2.2.2.2.2.2.2.2.2.2.1 x.2.2.2.2.2.2.2.2.2.2.2.1 x.2.2.2.2.2.2.2.2.2.2.2.2)) (h1.mono fun e env nx H h => by
    cases e with
    | normal => obtain ⟨y0, y1, y2, y3, y4, y5, y6, y7, y8, y9, y10, y11, y12, q1, q3⟩ := h; exact ⟨(y0, y1, y2, y3, y4, y5, y6, y7, y8, y9, y10, y11, y12), q1, q3⟩
    | exit i => exact h
    | ret => exact h) fun x hx => h2 x.1 x.2.1 x.2.2.1 x.2.2.2.1 x.2.2.2.2.1 x.2.2.2.2.2.1 x.2.2.2.2.2.2.1 x.2.2.2.2.2.2.2.1 x.2.2.2.2.2.2.2.2.1 x.2.2.2.2.2.2.2.2.2.1 x.2.2.2.2.2.2.2.2.2.2.1 x.2.2.2.2.2.2.2.2.2.2.2.1 x.2.2.2.2.2.2.2.2.2.2.2.2 hx
theorem loop14 {A0 A1 A2 A3 A4 A5 A6 A7 A8 A9 A10 A11 A12 A13 : Type} (I : A0 → A1 → A2 → A3 → A4 → A5 → A6 → A7 → A8 → A9 → A10 → A11 → A12 → A13 → Prop) (E : A0 → A1 → A2 → A3 → A4 → A5 → A6 → A7 → A8 → A9 → A10 → A11 → A12 → A13 → Env) (N : Nat) (G : A0 → A1 → A2 → A3 → A4 → A5 → A6 → A7 → A8 → A9 → A10 → A11 → A12 → A13 → Heap) (μ : A0 → A1 → A2 → A3 → A4 → A5 → A6 → A7 → A8 → A9 → A10 → A11 → A12 → A13 → Nat) (z0 : A0) (z1 : A1) (z2 : A2) (z3 : A3) (z4 : A4) (z5 : A5) (z6 : A6) (z7 : A7) (z8 : A8) (z9 : A9) (z10 : A10) (z11 : A11) (z12 : A12) (z13 : A13) (hI : (I z0 z1 z2 z3 z4 z5 z6 z7 z8 z9 z10 z11 z12 z13)) (h0 : Emb c.k (E z0 z1 z2 z3 z4 z5 z6 z7 z8 z9 z10 z11 z12 z13) N (G z0 z1 z2 z3 z4 z5 z6 z7 z8 z9 z10 z11 z12 z13) env H)
    (round : ∀ a0 a1 a2 a3 a4 a5 a6 a7 a8 a9 a10 a11 a12 a13, (I a0 a1 a2 a3 a4 a5 a6 a7 a8 a9 a10 a11 a12 a13) → W P c body (E a0 a1 a2 a3 a4 a5 a6 a7 a8 a9 a10 a11 a12 a13) N (G a0 a1 a2 a3 a4 a5 a6 a7 a8 a9 a10 a11 a12 a13) (thenP (fun env' _ H' => ∃ y0 y1 y2 y3 y4 y5 y6 y7 y8 y9 y10 y11 y12 y13, (I y0 y1 y2 y3 y4 y5 y6 y7 y8 y9 y10 y11 y12 y13) ∧ (μ y0 y1 y2 y3 y4 y5 y6 y7 y8 y9 y10 y11 y12 y13) < (μ a0 a1 a2 a3 a4 a5 a6 a7 a8 a9 a10 a11 a12 a13) ∧ Emb c.k (E y0 y1 y2 y3 y4 y5 y6 y7 y8 y9 y10 y11 y12 y13) N (G y0 y1 y2 y3 y4 y5 y6 y7 y8 y9 y10 y11 y12 y13) env' H') Q)) : W P c (.loop body) env nx H Q :=
  w_loop (α := A0 × A1 × A2 × A3 × A4 × A5 × A6 × A7 × A8 × A9 × A10 × A11 × A12 × A13) (fun x => (I x.1 x.2.1 x.2.2.1 x.2.2.2.1 x.2.2.2.2.1 x.2.2.2.2.2.1 x.2.2.2.2.2.2.1 x.2.2.2.2.2.2.2.1 x.2.2.2.2.2.2.2.2.1 x.2.2.2.2.2.2.2.2.2.1 x.2.2.2.2.2.2.2.2.2.2.1 x.2.2.2.2.2.2.2.2.2.2.2.1 x.2.2.2.2.2.2.2.2.2.2.2.2.1 x.2.2.2.2.2.2.2.2.2.2.2.2.2)) (fun x => (E x.1 x.2.1 x.2.2.1 x.2.2.2.1 x.2.2.2.2.1 x.2.2.2.2.2.1 x.2.2.2.2.2.2.1 x.2.2.2.2.2.2.2.1 x.2.2.2.2.2.2.2.2.1 x.2.2.2.2.2.2.2.2.2.1 x.2.2.2.2.2.2.2.2.2.2.1 x.2.2.2.2.2.2.2.2.2.2.2.1 x.2.2.2.2.2.2.2.2.2.2.2.2.1 x.2.2.2.2.2.2.2.2.2.2.2.2.2)) (fun _ => N) (fun x => (G x.1 x.2.1 x.2.2.1 x.2.2.2.1 x.2.2.2.2.1 x.2.2.2.2.2.1 x.2.2.2.2.2.2.1 x.2.2.2.2.2.2.2.1 x.2.2.2.2.2.2.2.2.1 x.2.2.2.2.2.2.2.2.2.1 x.2.2.2.2.2.2.2.2.2.2.1 x.2.2.2.2.2.2.2.2.2.2.2.1 x.2.2.2.2.2.2.2.2.2.2.2.2.1 x.2.2.2.2.2.2.2.2.2.2.2.2.2)) (fun x => (μ x.1 x.2.1 x.2.2.1 x.2.2.2.1 x.2.2.2.2.1 x.2.2.2.2.2.1 x.2.2.2.2.2.2.1 x.2.2.2.2.2.2.2.1 x.2.2.2.2.2.2.2.2.1 x.2.2.2.2.2.2.2.2.2.1 x.2.2.2.2.2.2.2.2.2.2.1 x.2.2.2.2.2.2.2.2.2.2.2.1 x.2.2.2.2.2.2.2.2.2.2.2.2.1 x.2.2.2.2.2.2.2.2.2.2.2.2.2)) (z0, z1, z2, z3, z4, z5, z6, z7, z8, z9, z10, z11, z12, z13) hI h0 fun x hx => (round x.1 x.2.1 x.2.2.1 x.2.2.2.1 x.2.2.2.2.1 x.2.2.2.2.2.1 x.2.2.2.2.2.2.1 x.2.2.2.2.2.2.2.1 x.2.2.2.2.2.2.2.2.1 x.2.2.2.2.2.2.2.2.2.1 x.2.2.2.2.2.2.2.2.2.2.1 x.2.2.2.2.2.2.2.2.2.2.2.1 x.2.2.2.2.2.2.2.2.2.2.2.2.1 x.2.2.2.2.2.2.2.2.2.2.2.2.2 hx).mono fun e env nx H h => by
    cases e with
    | normal => obtain ⟨y0, y1, y2, y3, y4, y5, y6, y7, y8, y9, y10, y11, y12, y13, q1, q2, q3⟩ := h; exact ⟨(y0, y1, y2, y3, y4, y5, y6, y7, y8, y9, y10, y11, y12, y13), q1, q2, q3⟩
    | exit i => exact h
    | ret => exact h
theorem join14 {A0 A1 A2 A3 A4 A5 A6 A7 A8 A9 A10 A11 A12 A13 : Type} (I : A0 → A1 → A2 → A3 → A4 → A5 → A6 → A7 → A8 → A9 → A10 → A11 → A12 → A13 → Prop) (E : A0 → A1 → A2 → A3 → A4 → A5 → A6 → A7 → A8 → A9 → A10 → A11 → A12 → A13 → Env) (N : Nat) (G : A0 → A1 → A2 → A3 → A4 → A5 → A6 → A7 → A8 → A9 → A10 → A11 → A12 → A13 → Heap) (h1 : W P c a env nx H (thenP (fun env' _ H' => ∃ y0 y1 y2 y3 y4 y5 y6 y7 y8 y9 y10 y11 y12 y13, (I y0 y1 y2 y3 y4 y5 y6 y7 y8 y9 y10 y11 y12 y13) ∧ Emb c.k (E y0 y1 y2 y3 y4 y5 y6 y7 y8 y9 y10 y11 y12 y13) N (G y0 y1 y2 y3 y4 y5 y6 y7 y8 y9 y10 y11 y12 y13) env' H') Q)) (h2 : ∀ a0 a1 a2 a3 a4 a5 a6 a7 a8 a9 a10 a11 a12 a13, (I a0 a1 a2 a3 a4 a5 a6 a7 a8 a9 a10 a11 a12 a13) → W P c b (E a0 a1 a2 a3 a4 a5 a6 a7 a8 a9 a10 a11 a12 a13) N (G a0 a1 a2 a3 a4 a5 a6 a7 a8 a9 a10 a11 a12 a13) Q) : W P c (.seq a b) env nx H Q :=
  w_join (α := A0 × A1 × A2 × A3 × A4 × A5 × A6 × A7 × A8 × A9 × A10 × A11 × A12 × A13) (fun x => (I x.1 x.2.1 x.2.2.1 x.2.2.2.1 x.2.2.2.2.1 x.2.2.2.2.2.1 x.2.2.2.2.2.2.1 x.2.2.2.2.2.2.2.1 x.2.2.2.2.2.2.2.2.1 x.2.2.2.2.2.2.2.2.2.1 x.2.2.2.2.2.2.2.2.2.2.1 x.2.2.2.2.2.2.2.2.2.2.2.1 x.2.2.2.2.2.2.2.2.2.2.2.2.1 x.2.2.2.2.2.2.2.2.2.2.2.2.2)) (fun x => (E x.1 x.2.1 x.2.2.1 x.2.2.2.1 x.2.2.2.2.1 x.2.2.2.2.2.1 x.2.2.2.2.2.2.1 x.2.2.2.2.2.2.2.1 x.2.2.2.2.2.2.2.2.1 x.2.2.2.2.2.2.2.2.2.1 x.2.2.2.2.2.2.2.2.2.2.1 x.2.2.2.2.2.2.2.2.2.2.2.1 x.2.2.2.2.2.2.2.2.2.2.2.2.1 x.2.2.2.2.2.2.2.2.2.2.2.2.2)) (fun _ => N) (fun x => (G x.1 x.2.1 x.2.2.1 x.2.2.2.1 x.2.2.2.2.1 x.2.2.2.2.2.1 x.2.2.2.2.2.2.1 x.2.2.2.2.2.2.2.1 x.2.2.2.2.2.2.2.2.1 x.2.2.2.2.2.2.2.2.2.1 x.2.2.2.2.2.2.2.2.2.2.1 x.2.2.2.2.2.2.2.2.2.2.2.1 x.2.2.2.2.2.2.2.2.2.2.2.2.1 x.2.2.2.2.2.2.2.2.2.2.2.2.2)) (h1.mono fun e env nx H h => by
    cases e with
    | normal => obtain ⟨y0, y1, y2, y3, y4, y5, y6, y7, y8, y9, y10, y11, y12, y13, q1, q3⟩ := h; exact ⟨(y0, y1, y2, y3, y4, y5, y6, y7, y8, y9, y10, y11, y12, y13), q1, q3⟩
    | exit i => exact h
    | ret => exact h) fun x hx => h2 x.1 x.2.1 x.2.2.1 x.2.2.2.1 x.2.2.2.2.1 x.2.2.2.2.2.1 x.2.2.2.2.2.2.1 x.2.2.2.2.2.2.2.1 x.2.2.2.2.2.2.2.2.1 x.2.2.2.2.2.2.2.2.2.1 x.2.2.2.2.2.2.2.2.2.2.1 x.2.2.2.2.2.2.2.2.2.2.2.1 x.2.2.2.2.2.2.2.2.2.2.2.2.1 x.2.2.2.2.2.2.2.2.2.2.2.2.2 hx
theorem loop15 {A0 A1 A2 A3 A4 A5 A6 A7 A8 A9 A10 A11 A12 A13 A14 : Type} (I : A0 → A1 → A2 → A3 → A4 → A5 → A6 → A7 → A8 → A9 → A10 → A11 → A12 → A13 → A14 → Prop) (E : A0 → A1 → A2 → A3 → A4 → A5 → A6 → A7 → A8 → A9 → A10 → A11 → A12 → A13 → A14 → Env) (N : Nat) (G : A0 → A1 → A2 → A3 → A4 → A5 → A6 → A7 → A8 → A9 → A10 → A11 → A12 → A13 → A14 → Heap) (μ : A0 → A1 → A2 → A3 → A4 → A5 → A6 → A7 → A8 → A9 → A10 → A11 → A12 → A13 → A14 → Nat) (z0 : A0) (z1 : A1) (z2 : A2) (z3 : A3) (z4 : A4) (z5 : A5) (z6 : A6) (z7 : A7) (z8 : A8) (z9 : A9) (z10 : A10) (z11 : A11) (z12 : A12) (z13 : A13) (z14 : A14) (hI : (I z0 z1 z2 z3 z4 z5 z6 z7 z8 z9 z10 z11 z12 z13 z14)) (h0 : Emb c.k (E z0 z1 z2 z3 z4 z5 z6 z7 z8 z9 z10 z11 z12 z13 z14) N (G z0 z1 z2 z3 z4 z5 z6 z7 z8 z9 z10 z11 z12 z13 z14) env H)
    (round : ∀ a0 a1 a2 a3 a4 a5 a6 a7 a8 a9 a10 a11 a12 a13 a14, (I a0 a1 a2 a3 a4 a5 a6 a7 a8 a9 a10 a11 a12 a13 a14) → W P c body (E a0 a1 a2 a3 a4 a5 a6 a7 a8 a9 a10 a11 a12 a13 a14) N (G a0 a1 a2 a3 a4 a5 a6 a7 a8 a9 a10 a11 a12 a13 a14) (thenP (fun env' _ H' => ∃ y0 y1 y2 y3 y4 y5 y6 y7 y8 y9 y10 y11 y12 y13 y14, (I y0 y1 y2 y3 y4 y5 y6 y7 y8 y9 y10 y11 y12 y13 y14) ∧ (μ y0 y1 y2 y3 y4 y5 y6 y7 y8 y9 y10 y11 y12 y13 y14) < (μ a0 a1 a2 a3 a4 a5 a6 a7 a8 a9 a10 a11 a12 a13 a14) ∧ Emb c.k (E y0 y1 y2 y3 y4 y5 y6 y7 y8 y9 y10 y11 y12 y13 y14) N (G y0 y1 y2 y3 y4 y5 y6 y7 y8 y9 y10 y11 y12 y13 y14) env' H') Q)) : W P c (.loop body) env nx H Q :=
  w_loop (α := A0 × A1 × A2 × A3 × A4 × A5 × A6 × A7 × A8 × A9 × A10 × A11 × A12 × A13 × A14) (fun x => (I x.1 x.2.1 x.2.2.1 x.2.2.2.1 x.2.2.2.2.1 x.2.2.2.2.2.1 x.2.2.2.2.2.2.1 x.2.2.2.2.2.2.2.1 x.2.2.2.2.2.2.2.2.1 x.2.2.2.2.2.2.2.2.2.1 x.2.2.2.2.2.2.2.2.2.2.1 x.2.2.2.2.2.2.2.2.2.2.2.1 x.2.2.2.2.2.2.2.2.2.2.2.2.1 x.2.2.2.2.2.2.2.2.2.2.2.2.2.1 x.2.2.2.2.2.2.2.2.2.2.2.2.2.2)) (fun x => (E x.1 x.2.1 x.2.2.1 x.2.2.2.1 x.2.2.2.2.1 x.2.2.2.2.2.1 x.2.2.2.2.2.2.1 x.2.2.2.2.2.2.2.1 x.2.2.2.2.2.2.2.2.1 x.2.2.2.2.2.2.2.2.2.1 x.2.2.2.2.2.2.2.2.2.2.1 x.2.2.2.2.2.2.2.2.2.2.2.1 x.2.2.2.2.2.2.2.2.2.2.2.2.1 x.2.2.2.2.2.2.2.2.2.2.2.2.2.1 x.2.2.2.2.2.2.2.2.2.2.2.2.2.2)) (fun _ => N) (fun x => (G x.1 x.2.1 x.2.2.1 x.2.2.2.1 x.2.2.2.2.1 x.2.2.2.2.2.1 x.2.2.2.2.2.2.1 x.2.2.2.2.2.2.2.1 x.2.2.2.2.2.2.2.2.1 x.2.2.2.2.2.2.2.2.2.1 x.2.2.2.2.2.2.2.2.2.2.1 x.2.2.2.2.2.2.2.2.2.2.2.1 x.2.2.2.2.2.2.2.2.2.2.2.2.1 x.2.2.2.2.2.2.2.2.2.2.2.2.2.1 x.2.2.2.2.2.2.2.2.2.2.2.2.2.2)) (fun x => (μ x.1 x.2.1 x.2.2.1 x.2.2.2.1 x.2.2.2.2.1 x.2.2.2.2.2.1 x.2.2.2.2.2.2.1 x.2.2.2.2.2.2.2.1 x.2.2.2.2.2.2.2.2.1 x.2.2.2.2.2.2.2.2.2.1 x.2.2.2.2.2.2.2.2.2.2.1 x.2.2.2.2.2.2.2.2.2.2.2.1 x.2.2.2.2.2.2.2.2.2.2.2.2.1 x.2.2.2.2.2.2.2.2.2.2.2.2.2.1 x.2.2.2.2.2.2.2.2.2.2.2.2.2.2)) (z0, z1, z2, z3, z4, z5, z6, z7, z8, z9, z10, z11, z12, z13, z14) hI h0 fun x hx => (round x.1 x.2.1 x.2.2.1 x.2.2.2.1 x.2.2.2.2.1 x.2.2.2.2.2.1 x.2.2.2.2.2.2.1 x.2.2.2.2.2.2.2.1 x.2.2.2.2.2.2.2.2.1 x.2.2.2.2.2.2.2.2.2.1 x.2.2.2.2.2.2.2.2.2.2.1 x.2.2.2.2.2.2.2.2.2.2.2.1 x.2.2.2.2.2.2.2.2.2.2.2.2.1 x.2.2.2.2.2.2.2.2.2.2.2.2.2.1 x.2.2.2.2.2.2.2.2.2.2.2.2.2.2 hx).mono fun e env nx H h => by
    cases e with
    | normal => obtain ⟨y0, y1, y2, y3, y4, y5, y6, y7, y8, y9, y10, y11, y12, y13, y14, q1, q2, q3⟩ := h; exact ⟨(y0, y1, y2, y3, y4, y5, y6, y7, y8, y9, y10, y11, y12, y13, y14), q1, q2, q3⟩
    | exit i => exact h
    | ret => exact h
theorem join15 {A0 A1 A2 A3 A4 A5 A6 A7 A8 A9 A10 A11 A12 A13 A14 : Type} (I : A0 → A1 → A2 → A3 → A4 → A5 → A6 → A7 → A8 → A9 → A10 → A11 → A12 → A13 → A14 → Prop) (E : A0 → A1 → A2 → A3 → A4 → A5 → A6 → A7 → A8 → A9 → A10 → A11 → A12 → A13 → A14 → Env) (N : Nat) (G : A0 → A1 → A2 → A3 → A4 → A5 → A6 → A7 → A8 → A9 → A10 → A11 → A12 → A13 → A14 → Heap) (h1 : W P c a env nx H (thenP (fun env' _ H' => ∃ y0 y1 y2 y3 y4 y5 y6 y7 y8 y9 y10 y11 y12 y13 y14, (I y0 y1 y2 y3 y4 y5 y6 y7 y8 y9 y10 y11 y12 y13 y14) ∧ Emb c.k (E y0 y1 y2 y3 y4 y5 y6 y7 y8 y9 y10 y11 y12 y13 y14) N (G y0 y1 y2 y3 y4 y5 y6 y7 y8 y9 y10 y11 y12 y13 y14) env' H') Q)) (h2 : ∀ a0 a1 a2 a3 a4 a5 a6 a7 a8 a9 a10 a11 a12 a13 a14, (I a0 a1 a2 a3 a4 a5 a6 a7 a8 a9 a10 a11 a12 a13 a14) → W P c b (E a0 a1 a2 a3 a4 a5 a6 a7 a8 a9 a10 a11 a12 a13 a14) N (G a0 a1 a2 a3 a4 a5 a6 a7 a8 a9 a10 a11 a12 a13 a14) Q) : W P c (.seq a b) env nx H Q :=
  w_join (α := A0 × A1 × A2 × A3 × A4 × A5 × A6 × A7 × A8 × A9 × A10 × A11 × A12 × A13 × A14) (fun x => (I x.1 x.2.1 x.2.2.1 x.2.2.2.1 x.2.2.2.2.1 x.2.2.2.2.2.1 x.2.2.2.2.2.2.1 x.2.2.2.2.2.2.2.1 x.2.2.2.2.2.2.2.2.1 x.2.2.2.2.2.2.2.2.2.1 x.2.2.2.2.2.2.2.2.2.2.1 x.2.2.2.2.2.2.2.2.2.2.2.1 x.2.2.2.2.2.2.2.2.2.2.2.2.1 x.2.2.2.2.2.2.2.2.2.2.2.2.2.1 x.2.2.2.2.2.2.2.2.2.2.2.2.2.2)) (fun x => (E x.1 x.2.1 x.2.2.1 x.2.2.2.1 x.2.2.2.2.1 x.2.2.2.2.2.1 x.2.2.2.2.2.2.1 x.2.2.2.2.2.2.2.1 x.2.2.2.2.2.2.2.2.1 x.2.2.2.2.2.2.2.2.2.1 x.2.2.2.2.2.2.2.2.2.2.1 x.2.2.2.2.2.2.2.2.2.2.2.1 x.2.2.2.2.2.2.2.2.2.2.2.2.1 x.2.2.2.2.2.2.2.2.2.2.2.2.2.1 x.2.2.2.2.2.2.2.2.2.2.2.2.2.2)) (fun _ => N) (fun x => (G x.1 x.2.1 x.2.2.1 x.2.2.2.1 x.2.2.2.2.1 x.2.2.2.2.2.1 x.2.2.2.2.2.2.1 x.2.2.2.2.2.2.2.1 x.2.2.2.2.2.2.2.2.1 x.2.2.2.2.2.2.2.2.2.1 x.2.2.2.2.2.2.2.2.2.2.1 x.2.2.2.2.2.2.2.2.2.2.2.1 x.2.2.2.2.2.2.2.2.2.2.2.2.1 x.2.2.2.2.2.2.2.2.2.2.2.2.2.1 x.2.2.2.2.2.2.2.2.2.2.2.2.2.2)) (h1.mono fun e env nx H h => by
    cases e with
    | normal => obtain ⟨y0, y1, y2, y3, y4, y5, y6, y7, y8, y9, y10, y11, y12, y13, y14, q1, q3⟩ := h; exact ⟨(y0, y1, y2, y3, y4, y5, y6, y7, y8, y9, y10, y11, y12, y13, y14), q1, q3⟩
    | exit i => exact h
    | ret => exact h) fun x hx => h2 x.1 x.2.1 x.2.2.1 x.2.2.2.1 x.2.2.2.2.1 x.2.2.2.2.2.1 x.2.2.2.2.2.2.1 x.2.2.2.2.2.2.2.1 x.2.2.2.2.2.2.2.2.1 x.2.2.2.2.2.2.2.2.2.1 x.2.2.2.2.2.2.2.2.2.2.1 x.2.2.2.2.2.2.2.2.2.2.2.1 x.2.2.2.2.2.2.2.2.2.2.2.2.1 x.2.2.2.2.2.2.2.2.2.2.2.2.2.1 x.2.2.2.2.2.2.2.2.2.2.2.2.2.2 hx
theorem loop16 {A0 A1 A2 A3 A4 A5 A6 A7 A8 A9 A10 A11 A12 A13 A14 A15 : Type} (I : A0 → A1 → A2 → A3 → A4 → A5 → A6 → A7 → A8 → A9 → A10 → A11 → A12 → A13 → A14 → A15 → Prop) (E : A0 → A1 → A2 → A3 → A4 → A5 → A6 → A7 → A8 → A9 → A10 → A11 → A12 → A13 → A14 → A15 → Env) (N : Nat) (G : A0 → A1 → A2 → A3 → A4 → A5 → A6 → A7 → A8 → A9 → A10 → A11 → A12 → A13 → A14 → A15 → Heap) (μ : A0 → A1 → A2 → A3 → A4 → A5 → A6 → A7 → A8 → A9 → A10 → A11 → A12 → A13 → A14 → A15 → Nat) (z0 : A0) (z1 : A1) (z2 : A2) (z3 : A3) (z4 : A4) (z5 : A5) (z6 : A6) (z7 : A7) (z8 : A8) (z9 : A9) (z10 : A10) (z11 : A11) (z12 : A12) (z13 : A13) (z14 : A14) (z15 : A15) (hI : (I z0 z1 z2 z3 z4 z5 z6 z7 z8 z9 z10 z11 z12 z13 z14 z15)) (h0 : Emb c.k (E z0 z1 z2 z3 z4 z5 z6 z7 z8 z9 z10 z11 z12 z13 z14 z15) N (G z0 z1 z2 z3 z4 z5 z6 z7 z8 z9 z10 z11 z12 z13 z14 z15) env H)
    (round : ∀ a0 a1 a2 a3 a4 a5 a6 a7 a8 a9 a10 a11 a12 a13 a14 a15, (I a0 a1 a2 a3 a4 a5 a6 a7 a8 a9 a10 a11 a12 a13 a14 a15) → W P c body (E a0 a1 a2 a3 a4 a5 a6 a7 a8 a9 a10 a11 a12 a13 a14 a15) N (G a0 a1 a2 a3 a4 a5 a6 a7 a8 a9 a10 a11 a12 a13 a14 a15) (thenP (fun env' _ H' => ∃ y0 y1 y2 y3 y4 y5 y6 y7 y8 y9 y10 y11 y12 y13 y14 y15, (I y0 y1 y2 y3 y4 y5 y6 y7 y8 y9 y10 y11 y12 y13 y14 y15) ∧ (μ y0 y1 y2 y3 y4 y5 y6 y7 y8 y9 y10 y11 y12 y13 y14 y15) < (μ a0 a1 a2 a3 a4 a5 a6 a7 a8 a9 a10 a11 a12 a13 a14 a15) ∧ Emb c.k (E y0 y1 y2 y3 y4 y5 y6 y7 y8 y9 y10 y11 y12 y13 y14 y15) N (G y0 y1 y2 y3 y4 y5 y6 y7 y8 y9 y10 y11 y12 y13 y14 y15) env' H') Q)) : W P c (.loop body) env nx H Q :=
  w_loop (α := A0 × A1 × A2 × A3 × A4 × A5 × A6 × A7 × A8 × A9 × A10 × A11 × A12 × A13 × A14 × A15) (fun x => (I x.1 x.2.1 x.2.2.1 x.2.2.2.1 x.2.2.2.2.1 x.2.2.2.2.2.1 x.2.2.2.2.2.2.1 x.2.2.2.2.2.2.2.1 x.2.2.2.2.2.2.2.2.1 x.2.2.2.2.2.2.2.2.2.1 x.2.2.2.2.2.2.2.2.2.2.1 x.2.2.2.2.2.2.2.2.2.2.2.1 x.2.2.2.2.2.2.2.2.2.2.2.2.1 x.2.2.2.2.2.2.2.2.2.2.2.2.2.1 x.2.2.2.2.2.2.2.2.2.2.2.2.2.2.1 x.2.2.2.2.2.2.2.2.2.2.2.2.2.2.2)) (fun x => (E x.1 x.2.1 x.2.2.1 x.2.2.2.1 x.2.2.2.2.1 x.2.2.2.2.2.1 x.2.2.2.2.2.2.1 x.2.2.2.2.2.2.2.1 x.2.2.2.2.2.2.2.2.1 x.2.2.2.2.2.2.2.2.2.1 x.2.2.2.2.2.2.2.2.2.2.1 x.2.2.2.2.2.2.2.2.2.2.2.1 x.2.2.2.2.2.2.2.2.2.2.2.2.1 x.2.2.2.2.2.2.2.2.2.2.2.2.2.1 x.2.2.2.2.2.2.2.2.2.2.2.2.2.2.1 x.2.2.2.2.2.2.2.2.2.2.2.2.2.2.2)) (fun _ => N) (fun x => (G x.1 x.2.1 x.2.2.1 x.2.2.2.1 x.2.2.2.2.1 x.2.2.2.2.2.1 x.2.2.2.2.2.2.1 x.2.2.2.2.2.2.2.1 x.2.2.2.2.2.2.2.2.1 x.2.2.2.2.2.2.2.2.2.1 x.2.2.2.2.2.2.2.2.2.2.1 x.2.2.2.2.2.2.2.2.2.2.2.1 x.2.2.2.2.2.2.2.2.2.2.2.2.1 x.2.2.2.2.2.2.2.2.2.2.2.2.2.1 x.2.2.2.2.2.2.2.2.2.2.2.2.2.2.1 x.2.2.2.2.2.2.2.2.2.2.2.2.2.2.2)) (fun x => (μ x.1 x.2.1 x.2.2.1 x.2.2.2.1 x.2.2.2.2.1 x.2.2.2.2.2.1 x.2.2.2.2.2.2.1 x.2.2.2.2.2.2.2.1 x.2.2.2.2.2.2.2.2.1 x.2.2.2.2.2.2.2.2.2.1 x.2.2.2.2.2.2.2.2.2.2.1 x.2.2.2.2.2.2.2.2.2.2.2.1 x.2.2.2.2.2.2.2.2.2.2.2.2.1 x.2.2.2.2.2.2.2.2.2.2.2.2.2.1 x.2.2.2.2.2.2.2.2.2.2.2.2.2.2.1 x.2.2.2.2.2.2.2.2.2.2.2.2.2.2.2)) (z0, z1, z2, z3, z4, z5, z6, z7, z8, z9, z10, z11, z12, z13, z14, z15) hI h0 fun x hx => (round x.1 x.2.1 x.2.2.1 x.2.2.2.1 x.2.2.2.2.1 x.2.2.2.2.2.1 x.2.2.2.2.2.2.1 x.2.2.2.2.2.2.2.1 x.2.2.2.2.2.2.2.2.1 x.2.2.2.2.2.2.2.2.2.1 x.2.2.2.2.2.2.2.2.2.2.1 x.2.2.2.2.2.2.2.2.2.2.2.1 x.2.2.2.2.2.2.2.2.2.2.2.2.1 x.2.2.2.2.2.2.2.2.2.2.2.2.2.1 x.2.2.2.2.2.2.2.2.2.2.2.2.2.2.1 x.2.2.2.2.2.2.2.2.2.2.2.2.2.2.2 hx).mono fun e env nx H h => by
    cases e with
    | normal => obtain ⟨y0, y1, y2, y3, y4, y5, y6, y7, y8, y9, y10, y11, y12, y13, y14, y15, q1, q2, q3⟩ := h; exact ⟨(y0, y1, y2, y3, y4, y5, y6, y7, y8, y9, y10, y11, y12, y13, y14, y15), q1, q2, q3⟩
    | exit i => exact h
    | ret => exact h
theorem join16 {A0 A1 A2 A3 A4 A5 A6 A7 A8 A9 A10 A11 A12 A13 A14 A15 : Type} (I : A0 → A1 → A2 → A3 → A4 → A5 → A6 → A7 → A8 → A9 → A10 → A11 → A12 → A13 → A14 → A15 → Prop) (E : A0 → A1 → A2 → A3 → A4 → A5 → A6 → A7 → A8 → A9 → A10 → A11 → A12 → A13 → A14 → A15 → Env) (N : Nat) (G : A0 → A1 → A2 → A3 → A4 → A5 → A6 → A7 → A8 → A9 → A10 → A11 → A12 → A13 → A14 → A15 → Heap) (h1 : W P c a env nx H (thenP (fun env' _ H' => ∃ y0 y1 y2 y3 y4 y5 y6 y7 y8 y9 y10 y11 y12 y13 y14 y15, (I y0 y1 y2 y3 y4 y5 y6 y7 y8 y9 y10 y11 y12 y13 y14 y15) ∧ Emb c.k (E y0 y1 y2 y3 y4 y5 y6 y7 y8 y9 y10 y11 y12 y13 y14 y15) N (G y0 y1 y2 y3 y4 y5 y6 y7 y8 y9 y10 y11 y12 y13 y14 y15) env' H') Q)) (h2 : ∀ a0 a1 a2 a3 a4 a5 a6 a7 a8 a9 a10 a11 a12 a13 a14 a15, (I a0 a1 a2 a3 a4 a5 a6 a7 a8 a9 a10 a11 a12 a13 a14 a15) → W P c b (E a0 a1 a2 a3 a4 a5 a6 a7 a8 a9 a10 a11 a12 a13 a14 a15) N (G a0 a1 a2 a3 a4 a5 a6 a7 a8 a9 a10 a11 a12 a13 a14 a15) Q) : W P c (.seq a b) env nx H Q :=
  w_join (α := A0 × A1 × A2 × A3 × A4 × A5 × A6 × A7 × A8 × A9 × A10 × A11 × A12 × A13 × A14 × A15) (fun x => (I x.1 x.2.1 x.2.2.1 x.2.2.2.1 x.2.2.2.2.1 x.2.2.2.2.2.1 x.2.2.2.2.2.2.1 x.2.2.2.2.2.2.2.1 x.2.2.2.2.2.2.2.2.1 x.2.2.2.2.2.2.2.2.2.1 x.2.2.2.2.2.2.2.2.2.2.1 x.2.2.2.2.2.2.2.2.2.2.2.1 x.2.2.2.2.2.2.2.2.2.2.2.2.1 x.2.2.2.2.2.2.2.2.2.2.2.2.2.1 x.2.2.2.2.2.2.2.2.2.2.2.2.2.2.1 x.2.2.2.2.2.2.2.2.2.2.2.2.2.2.2)) (fun x => (E x.1 x.2.1 x.2.2.1 x.2.2.2.1 x.2.2.2.2.1 x.2.2.2.2.2.1 x.2.2.2.2.2.2.1 x.2.2.2.2.2.2.2.1 x.2.2.2.2.2.2.2.2.1 x.2.2.2.2.2.2.2.2.2.1 x.2.2.2.2.2.2.2.2.2.2.1 x.2.2.2.2.2.2.2.2.2.2.2.1 x.2.2.2.2.2.2.2.2.2.2.2.2.1 x.2.2.2.2.2.2.2.2.2.2.2.2.2.1 x.2.2.2.2.2.2.2.2.2.2.2.2.2.2.1 x.2.2.2.2.2.2.2.2.2.2.2.2.2.2.2)) (fun _ => N) (fun x => (G x.1 x.2.1 x.2.2.1 x.2.2.2.1 x.2.2.2.2.1 x.2.2.2.2.2.1 x.2.2.2.2.2.2.1 x.2.2.2.2.2.2.2.1 x.2.2.2.2.2.2.2.2.1 x.2.2.2.2.2.2.2.2.2.1 x.2.2.2.2.2.2.2.2.2.2.1 x.2.2.2.2.2.2.2.2.2.2.2.1 x.2.2.2.2.2.2.2.2.2.2.2.2.1 x.2.2.2.2.2.2.2.2.2.2.2.2.2.1 x.2.2.2.2.2.2.2.2.2.2.2.2.2.2.1 x.2.2.2.2.2.2.2.2.2.2.2.2.2.2.2)) (h1.mono fun e env nx H h => by
    cases e with
    | normal => obtain ⟨y0, y1, y2, y3, y4, y5, y6, y7, y8, y9, y10, y11, y12, y13, y14, y15, q1, q3⟩ := h; exact ⟨(y0, y1, y2, y3, y4, y5, y6, y7, y8, y9, y10, y11, y12, y13, y14, y15), q1, q3⟩
    | exit i => exact h
    | ret => exact h) fun x hx => h2 x.1 x.2.1 x.2.2.1 x.2.2.2.1 x.2.2.2.2.1 x.2.2.2.2.2.1 x.2.2.2.2.2.2.1 x.2.2.2.2.2.2.2.1 x.2.2.2.2.2.2.2.2.1 x.2.2.2.2.2.2.2.2.2.1 x.2.2.2.2.2.2.2.2.2.2.1 x.2.2.2.2.2.2.2.2.2.2.2.1 x.2.2.2.2.2.2.2.2.2.2.2.2.1 x.2.2.2.2.2.2.2.2.2.2.2.2.2.1 x.2.2.2.2.2.2.2.2.2.2.2.2.2.2.1 x.2.2.2.2.2.2.2.2.2.2.2.2.2.2.2 hx
end
end Go.Proofs.Yteedhlgdbankiaa.Pv

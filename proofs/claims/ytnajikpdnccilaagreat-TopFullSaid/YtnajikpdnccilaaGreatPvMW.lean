/- Rows of operations; code; functions. Regions that draw their order are told elsewhere. -/
import Derived.Test.YtnajikpdnccilaaGreatPvMV
set_option linter.unusedVariables false
set_option linter.unusedSimpArgs false
namespace Go.Proofs.YtnajikpdnccilaaGreat.Pv.M
open Go

def Ex.to : Ex → Exit
  | .normal => .normal
  | .exit i => .exit i
  | .ret => .ret
section
variable (ρ : Nat → Int) (P : Program)
def PostB (c : Ctx) (x : Ex) (env : Env) (nx : Nat) (H : Heap) : Exit → Act → World → Prop := fun e a w => e = x.to ∧ a.defers = [] ∧ ∃ φ, St ρ c nx env H φ a.tmps w
/-- A piece of code, from all that fits: what it leaves. -/
def WB (c : Ctx) (code : Code) (env : Env) (nx : Nat) (H : Heap) (x : Ex) (env' : Env) (nx' : Nat) (H' : Heap) : Prop :=
  ∀ φ tmps w, St ρ c nx env H φ tmps w → code.wp P (PostB ρ c x env' nx' H') (act tmps) w
end
section
variable {ρ : Nat → Int} {P : Program} {D : Dm}
theorem Suf.refl (H : Heap) : Suf H H := ⟨[], rfl⟩
theorem Suf.trans {A B C : Heap} (h : Suf A B) (k : Suf B C) : Suf A C := by
  obtain ⟨d, rfl⟩ := h
  obtain ⟨e, rfl⟩ := k
  exact ⟨e ++ d, by simp⟩
theorem actE {a : Act} (h : a.defers = []) : a = act a.tmps := by cases a; simp_all
theorem put_act (tmps : Array Value) (d : Option Nat) (v : Value) : (act tmps).put d v = act ((act tmps).put d v).tmps := by cases d <;> rfl
theorem St.putE {c : Ctx} {nx : Nat} {env : Env} {H : Heap} {φ : Nat → Ph} {tmps : Array Value} {w : World} (h : St ρ c nx env H φ tmps w) {x : MV} {v : Value} {d : Option Nat} (hr : Rel ρ φ nx x v)
    (hd : Option.rec (motive := fun _ => Bool) true (fun d => Nat.ble (Nat.succ d) c.nt) d = true) : St ρ c nx (M.putE d x env) H φ ((act tmps).put d v).tmps w := by
  cases d with
  | none => exact h
  | some d => exact h.put hr (Nat.le_of_ble_eq_true hd)
/-- Is an operation wanted? -/
theorem guard_inv {ops : Array Oper} {env : Env} {g : Option (Nat × Bool)} {t e : Bool} (h : guard ops env g t e = true) :
    ∃ b : Bool, (if b then t else e) = true ∧ ∀ {c nx H φ tmps w}, St ρ c nx env H φ tmps w → ∀ o : Oper, o.guard = g → Region.wanted o (yielded ops tmps) = b := by
  cases g with
  | none => exact ⟨true, h, fun _ o ho => by simp [Region.wanted, ho]⟩
  | some p =>
    obtain ⟨j, want⟩ := p
    obtain ⟨d, h1, h⟩ := ob_inv (show ob (gslot ops j) _ = true from h)
    obtain ⟨v, h2, h⟩ := ob_inv h
    have hj : (ops[j]?).bind (·.dst) = some d := by
      unfold gslot at h1
      split at h1
      · rename_i o ho; rw [ho]; exact h1
      · cases h1
    have base : ∀ {c nx H φ tmps w}, St ρ c nx env H φ tmps w → ∀ o : Oper, o.guard = some (j, want) → ∃ u, Rel ρ φ nx v u ∧ Region.wanted o (yielded ops tmps) = (vb u == some want) := by
      intro c nx H φ tmps w hs o ho
      obtain ⟨u, u1, u2⟩ := hs.env d v h2
      refine ⟨u, u2, ?_⟩
      simp only [Region.wanted, ho, yielded_vb hj u1]
    cases v with
    | b x =>
      have h : ow (x == want) t e = true := h
      refine ⟨x == want, ?_, fun hs o ho => ?_⟩
      · rcases ow_inv h with ⟨e1, h⟩ | ⟨e1, h⟩ <;> rw [e1] <;> exact h
      · obtain ⟨u, u1, u2⟩ := base hs o ho
        cases u1
        rw [u2]; simp [vb]
    | v x =>
      obtain ⟨h3, h⟩ := oc_inv (show oc (notB x) e = true from h)
      refine ⟨false, h, fun hs o ho => ?_⟩
      obtain ⟨u, u1, u2⟩ := base hs o ho
      cases u1
      rw [u2]
      cases x <;> first | rfl | cases h3
    | _ => cases (show false = true from h)
/-- Operations in the text's order. -/
theorem fN_eq (n : Nat) (k : Nat → Bool) : fN n k = k n := by cases n <;> rfl
theorem fI_eq (c : Int) (k : Int → Bool) : fI c k = k c := by cases c with
  | ofNat m => exact fN_eq m fun m => k (Int.ofNat m)
  | negSucc m => exact fN_eq m fun m => k (Int.negSucc m)
theorem fB_eq (b : Bool) (k : Bool → Bool) : fB b k = k b := by cases b <;> rfl
theorem fO_eq (o : Option Nat) (k : Option Nat → Bool) : fO o k = k o := by cases o with
  | none => rfl
  | some m => exact fN_eq m fun m => k (some m)
theorem fK_eq (o : IntKind) (k : IntKind → Bool) : fK o k = k o := by cases o <;> rfl
theorem fL_eq : ∀ (l : List Int) (k : List Int → Bool), fL l k = k l
  | [], _ => rfl
  | a :: l, k => by
    show fI a (fun a => fL l fun l => k (a :: l)) = _
    rw [fI_eq, fL_eq l]
theorem fV_eq (v : MV) (k : MV → Bool) : fV v k = k v := by
  cases v with
  | b x => exact fB_eq x fun b => k (.b b)
  | n i c => show fK i (fun i => fI c fun c => k (.n i c)) = _; rw [fK_eq, fI_eq]
  | a i c l => show fK i (fun i => fI c fun c => fL l fun l => k (.a i c l)) = _; rw [fK_eq, fI_eq, fL_eq]
  | ptr n o => show fN n (fun n => fN o fun o => k (.ptr n o)) = _; rw [fN_eq, fN_eq]
  | sl sz n o l c => show fN sz (fun sz => fN n fun n => fN o fun o => fN l fun l => fO c fun c => k (.sl sz n o l c)) = _; rw [fN_eq, fN_eq, fN_eq, fN_eq, fO_eq]
  | mp n => exact fN_eq n fun n => k (.mp n)
  | _ => rfl
theorem forceK_eq (k : KV) (v : MV) (nx : Nat) (H : Heap) : forceK k v nx H = k v nx H := by unfold forceK; rw [fV_eq, fN_eq]
theorem opsF_ok (hD : OkD D ρ) {call : CallK} (hc : CallOk ρ P call) {ops : Array Oper} : ∀ {l : List Oper} {env nx H} {k : KC}, opsF P D call ops l env nx H k = true → ∃ env' nx' H', k .normal env' nx' H' = true ∧ Suf H H' ∧
    ∀ (c : Ctx), roomO c.nt l = true → ∀ (Q : Exit → Act → World → Prop), (∀ φ tmps w, St ρ c nx' env' H' φ tmps w → Q .normal (act tmps) w) → ∀ φ tmps w, St ρ c nx env H φ tmps w → wpList P ops Q l (act tmps) w
  | [], env, nx, H, k, h => ⟨env, nx, H, h, Suf.refl H, fun c _ Q hQ φ tmps w hs => hQ φ tmps w hs⟩
  | o :: l, env, nx, H, k, h => by
    have h : guard ops env o.guard (oOp P D o.op call env nx H (forceK fun v nx H => opsF P D call ops l (putE o.dst v env) nx H k)) (opsF P D call ops l (putE o.dst undefM env) nx H k) = true := h
    obtain ⟨b, hb, hw⟩ := guard_inv (ρ := ρ) h
    have room : ∀ {nt : Nat}, roomO nt (o :: l) = true → Option.rec (motive := fun _ => Bool) true (fun d => Nat.ble (Nat.succ d) nt) o.dst = true ∧ roomO nt l = true := by
      intro nt hr
      have hr : Bool.rec (motive := fun _ => Bool) false (roomO nt l) (Option.rec (motive := fun _ => Bool) true (fun d => Nat.ble (Nat.succ d) nt) o.dst) = true := hr
      cases hd : (Option.rec (motive := fun _ => Bool) true (fun d => Nat.ble (Nat.succ d) nt) o.dst : Bool) with
      | false => rw [hd] at hr; cases hr
      | true => rw [hd] at hr; exact ⟨rfl, hr⟩
    cases b with
    | true =>
      obtain ⟨v, nx1, H1, h1, h2, h3⟩ := oOp_ok hD o.op hc hb
      rw [forceK_eq] at h2
      obtain ⟨env', nx', H', k1, k2, k3⟩ := opsF_ok hD hc h2
      refine ⟨env', nx', H', k1, h3.trans k2, fun c hr Q hQ φ tmps w hs => ?_⟩
      obtain ⟨r1, r2⟩ := room hr
      unfold wpList
      rw [if_pos (hw hs o rfl)]
      refine .inl (h1 o c rfl φ tmps w hs _ _ fun φ' u w' hs' hrel _ _ => ?_)
      rw [put_act]
      exact k3 c r2 Q hQ φ' _ w' (hs'.putE hrel r1)
    | false =>
      obtain ⟨env', nx', H', k1, k2, k3⟩ := opsF_ok hD hc (show opsF P D call ops l (putE o.dst undefM env) nx H k = true from hb)
      refine ⟨env', nx', H', k1, k2, fun c hr Q hQ φ tmps w hs => ?_⟩
      obtain ⟨r1, r2⟩ := room hr
      unfold wpList
      rw [if_neg (by rw [hw hs o rfl]; simp), put_act]
      exact k3 c r2 Q hQ φ _ w (hs.putE (.v undef) r1)
/-- What a region that draws its order must answer to. -/
def DrawOk (ρ : Nat → Int) (P : Program) (D : Dm) : Prop := ∀ {call : CallK} {ops : Array Oper} {env nx H} {k : KC}, CallOk ρ P call → drawF P D call ops env nx H k = true →
  ∃ env' nx' H', k .normal env' nx' H' = true ∧ Suf H H' ∧ ∀ (c : Ctx) (id : Nat), roomO c.nt ops.toList = true → WB ρ P c (.region id ops true) env nx H .normal env' nx' H'
/-- Rounds, from within. -/
def LW (ρ : Nat → Int) (P : Program) (c : Ctx) (body : Code) (env : Env) (nx : Nat) (H : Heap) (x : Ex) (env' : Env) (nx' : Nat) (H' : Heap) : Prop :=
  ∀ φ tmps w, St ρ c nx env H φ tmps w → ∀ b k cs, ∃ e a' w', PostB ρ c x env' nx' H' e a' w' ∧ Arrives P (lone (b.at (act tmps) (.code body :: .inLoop body :: k)) cs w) b k cs e a' w'
/-- What code answers to. -/
def CodeOk (ρ : Nat → Int) (P : Program) (f : CoF) (code : Code) : Prop := ∀ env nx H (k : KC), f env nx H k = true → ∃ x env' nx' H', k x env' nx' H' = true ∧ Suf H H' ∧ ∀ (c : Ctx), roomC c.nt code = true → WB ρ P c code env nx H x env' nx' H'
theorem seq_ok {f g : CoF} {a b : Code} (hf : CodeOk ρ P f a) (hg : CodeOk ρ P g b) : CodeOk ρ P (mSeq f g) (.seq a b) := fun env nx H k h => by
  obtain ⟨x, env1, nx1, H1, h1, h2, h3⟩ := hf _ _ _ _ (show f env nx H (seqK g k) = true from h)
  have room : ∀ {nt : Nat}, roomC nt (.seq a b) = true → roomC nt a = true ∧ roomC nt b = true := fun hr => oc_inv hr
  cases x with
  | normal =>
    obtain ⟨y, env2, nx2, H2, k1, k2, k3⟩ := hg _ _ _ _ (show g env1 nx1 H1 k = true from h1)
    refine ⟨y, env2, nx2, H2, k1, h2.trans k2, fun c hr φ tmps w hs => ?_⟩
    refine wp_seq (Code.wp_mono (fun e a' w' hp => ?_) (h3 c (room hr).1 φ tmps w hs))
    obtain ⟨rfl, hd, φ', hs'⟩ := hp
    show b.wp P _ a' w'
    rw [actE hd]
    exact k3 c (room hr).2 φ' _ w' hs'
  | exit i =>
    refine ⟨.exit i, env1, nx1, H1, h1, h2, fun c hr φ tmps w hs => ?_⟩
    refine wp_seq (Code.wp_mono (fun e a' w' hp => ?_) (h3 c (room hr).1 φ tmps w hs))
    obtain ⟨rfl, hd⟩ := hp
    exact ⟨rfl, hd⟩
  | ret =>
    refine ⟨.ret, env1, nx1, H1, h1, h2, fun c hr φ tmps w hs => ?_⟩
    refine wp_seq (Code.wp_mono (fun e a' w' hp => ?_) (h3 c (room hr).1 φ tmps w hs))
    obtain ⟨rfl, hd⟩ := hp
    exact ⟨rfl, hd⟩
theorem loop_ok {f : CoF} {body : Code} (hf : CodeOk ρ P f body) : ∀ {n : Nat} {env nx H} {k : KC}, mLoopN f n env nx H k = true → ∃ x env' nx' H', k x env' nx' H' = true ∧ Suf H H' ∧ ∀ (c : Ctx), roomC c.nt body = true → LW ρ P c body env nx H x env' nx' H'
  | 0, env, nx, H, k, h => by cases (show false = true from h)
  | n + 1, env, nx, H, k, h => by
    obtain ⟨x, env1, nx1, H1, h1, h2, h3⟩ := hf _ _ _ _ (show f env nx H (seqK (mLoopN f n) k) = true from h)
    cases x with
    | normal =>
      obtain ⟨y, env2, nx2, H2, k1, k2, k3⟩ := loop_ok hf (show mLoopN f n env1 nx1 H1 k = true from h1)
      refine ⟨y, env2, nx2, H2, k1, h2.trans k2, fun c hr φ tmps w hs b kk cs => ?_⟩
      obtain ⟨e, a1, w1, ⟨rfl, hd, φ', hs'⟩, harr⟩ := h3 c hr φ tmps w hs b (.inLoop body :: kk) cs
      obtain ⟨e2, a2, w2, q2, harr2⟩ := k3 c hr φ' a1.tmps w1 hs' b kk cs
      rw [← actE hd] at harr2
      exact ⟨e2, a2, w2, q2, .of_steps (Steps.trans harr (.one step_inLoop)) harr2⟩
    | exit i =>
      refine ⟨.exit i, env1, nx1, H1, h1, h2, fun c hr φ tmps w hs b kk cs => ?_⟩
      obtain ⟨e, a1, w1, ⟨rfl, hd, φ', hs'⟩, harr⟩ := h3 c hr φ tmps w hs b (.inLoop body :: kk) cs
      exact ⟨_, a1, w1, ⟨rfl, hd, φ', hs'⟩, .pass (x := .inLoop body) rfl (fun _ _ => .inl (by simp [Ex.to])) harr⟩
    | ret =>
      refine ⟨.ret, env1, nx1, H1, h1, h2, fun c hr φ tmps w hs b kk cs => ?_⟩
      obtain ⟨e, a1, w1, ⟨rfl, hd, φ', hs'⟩, harr⟩ := h3 c hr φ tmps w hs b (.inLoop body :: kk) cs
      exact ⟨_, a1, w1, ⟨rfl, hd, φ', hs'⟩, .pass (x := .inLoop body) rfl (fun _ _ => .inl (by simp [Ex.to])) harr⟩
theorem codeF_ok (hD : OkD D ρ) (hdr : DrawOk ρ P D) {call : CallK} (hc : CallOk ρ P call) : ∀ (code : Code), CodeOk ρ P (codeF P D call code) code
  | .skip => fun env nx H k h => ⟨.normal, env, nx, H, h, Suf.refl H, fun c _ φ tmps w hs => wp_skip ⟨rfl, rfl, φ, hs⟩⟩
  | .region id ops false => fun env nx H k h => by
    obtain ⟨env', nx', H', h1, h2, h3⟩ := opsF_ok hD hc (show opsF P D call ops ops.toList env nx H k = true from h)
    exact ⟨.normal, env', nx', H', h1, h2, fun c hr φ tmps w hs => wp_region_list (h3 c hr _ (fun φ tmps w hs => ⟨rfl, rfl, φ, hs⟩) φ tmps w hs)⟩
  | .region id ops true => fun env nx H k h => by
    obtain ⟨env', nx', H', h1, h2, h3⟩ := hdr hc (show drawF P D call ops env nx H k = true from h)
    exact ⟨.normal, env', nx', H', h1, h2, fun c hr => h3 c id hr⟩
  | .seq a b => seq_ok (codeF_ok hD hdr hc a) (codeF_ok hD hdr hc b)
  | .cond x t e => fun env nx H k h => by
    obtain ⟨v, h1, h⟩ := ob_inv (show ob (ev env x) (fun v => onB v (codeF P D call t env nx H k) (codeF P D call e env nx H k)) = true from h)
    have room : ∀ {nt : Nat}, roomC nt (.cond x t e) = true → roomC nt t = true ∧ roomC nt e = true := fun hr => oc_inv hr
    have ev' : ∀ {c φ tmps w b}, St ρ c nx env H φ tmps w → v = .b b → (act tmps).eval x = .bool b := fun hs e1 => by
      have := ev_rel hs h1
      rw [e1] at this
      generalize (act _).eval x = y at this
      cases this; rfl
    rcases onB_inv h with ⟨e1, h⟩ | ⟨e1, h⟩
    · obtain ⟨y, env', nx', H', k1, k2, k3⟩ := codeF_ok hD hdr hc t _ _ _ _ h
      exact ⟨y, env', nx', H', k1, k2, fun c hr φ tmps w hs => wp_cond (ev' hs e1) (k3 c (room hr).1 φ tmps w hs)⟩
    · obtain ⟨y, env', nx', H', k1, k2, k3⟩ := codeF_ok hD hdr hc e _ _ _ _ h
      exact ⟨y, env', nx', H', k1, k2, fun c hr φ tmps w hs => wp_cond (ev' hs e1) (k3 c (room hr).2 φ tmps w hs)⟩
  | .block id body => fun env nx H k h => by
    obtain ⟨x, env1, nx1, H1, h1, h2, h3⟩ := codeF_ok hD hdr hc body _ _ _ _ (show codeF P D call body env nx H (blockK id k) = true from h)
    cases x with
    | normal =>
      refine ⟨.normal, env1, nx1, H1, h1, h2, fun c hr φ tmps w hs => wp_block (Code.wp_mono (fun e a' w' hp => ?_) (h3 c hr φ tmps w hs))⟩
      obtain ⟨rfl, hd⟩ := hp
      exact ⟨rfl, hd⟩
    | ret =>
      refine ⟨.ret, env1, nx1, H1, h1, h2, fun c hr φ tmps w hs => wp_block (Code.wp_mono (fun e a' w' hp => ?_) (h3 c hr φ tmps w hs))⟩
      obtain ⟨rfl, hd⟩ := hp
      exact ⟨rfl, hd⟩
    | exit i =>
      rcases ow_inv (show ow (Nat.beq i id) (k .normal env1 nx1 H1) (k (.exit i) env1 nx1 H1) = true from h1) with ⟨e1, h1⟩ | ⟨e1, h1⟩
      · have e1 := Nat.eq_of_beq_eq_true e1
        refine ⟨.normal, env1, nx1, H1, h1, h2, fun c hr φ tmps w hs => wp_block (Code.wp_mono (fun e a' w' hp => ?_) (h3 c hr φ tmps w hs))⟩
        obtain ⟨rfl, hd⟩ := hp
        show (if i = id then PostB ρ c .normal env1 nx1 H1 .normal a' w' else _)
        rw [if_pos e1]
        exact ⟨rfl, hd⟩
      · have e1 : i ≠ id := fun e => by rw [e, Nat.beq_refl] at e1; cases e1
        refine ⟨.exit i, env1, nx1, H1, h1, h2, fun c hr φ tmps w hs => wp_block (Code.wp_mono (fun e a' w' hp => ?_) (h3 c hr φ tmps w hs))⟩
        obtain ⟨rfl, hd⟩ := hp
        show (if i = id then _ else PostB ρ c (.exit i) env1 nx1 H1 (.exit i) a' w')
        rw [if_neg e1]
        exact ⟨rfl, hd⟩
  | .loop body => fun env nx H k h => by
    obtain ⟨x, env', nx', H', h1, h2, h3⟩ := loop_ok (codeF_ok hD hdr hc body) (show mLoopN (codeF P D call body) rounds env nx H k = true from h)
    refine ⟨x, env', nx', H', h1, h2, fun c hr φ tmps w hs b kk cs => ?_⟩
    obtain ⟨e, a', w', hq, harr⟩ := h3 c hr φ tmps w hs b kk cs
    exact ⟨e, a', w', hq, .of_steps (.one step_loop) harr⟩
  | .exit id => fun env nx H k h => ⟨.exit id, env, nx, H, h, Suf.refl H, fun c _ φ tmps w hs => wp_exit ⟨rfl, rfl, φ, hs⟩⟩
  | .ret => fun env nx H k h => ⟨.ret, env, nx, H, h, Suf.refl H, fun c _ φ tmps w hs => wp_ret ⟨rfl, rfl, φ, hs⟩⟩
  | .rangeFunc .. => fun env nx H k h => by cases (show false = true from h)
  | .scope .. => fun env nx H k h => by cases (show false = true from h)
  | .label .. => fun env nx H k h => by cases (show false = true from h)
  | .goto .. => fun env nx H k h => by cases (show false = true from h)
  | .refuse .. => fun env nx H k h => by cases (show false = true from h)
/-! ### Functions -/
theorem look_argE : ∀ (l : List MV) (i n : Nat), look (argE l i) n = if i ≤ n then l[n - i]? else none
  | [], i, n => by simp [argE, look]
  | x :: l, i, n => by
    have e : argE (x :: l) i = (i, x) :: argE l (i + 1) := rfl
    rw [e, look_cons, look_argE l (i + 1) n]
    by_cases h : i = n
    · subst h; simp
    · rw [if_neg h]
      by_cases h2 : i ≤ n
      · rw [if_pos h2, if_pos (by omega)]
        have : n - i = (n - (i + 1)) + 1 := by omega
        rw [this, List.getElem?_cons_succ]
      · rw [if_neg h2, if_neg (by omega)]
theorem resL_ok {env : Env} {H : Heap} {nx : Nat} : ∀ {rs : List ResultVar} {κ : List MV → Bool}, resL P env H rs κ = true → ∃ xs, κ xs = true ∧ ∀ {c φ tmps w}, St ρ c nx env H φ tmps w →
    ∃ vs : List Value, (rs.mapM (resVal tmps)).run P w = .ok vs w ∧ vs.length = xs.length ∧ ∀ (i : Nat) x v, xs[i]? = some x → vs[i]? = some v → Rel ρ φ nx x v
  | [], κ, h => ⟨[], h, fun hs => ⟨[], by simp, rfl, fun i x v hx => by simp at hx⟩⟩
  | r :: rs, κ, h => by
    cases r with
    | tmp t =>
      obtain ⟨x, h1, h⟩ := ob_inv (show ob (look env t) (fun x => resL P env H rs fun ys => κ (x :: ys)) = true from h)
      obtain ⟨xs, h2, h3⟩ := resL_ok h
      refine ⟨x :: xs, h2, fun {c φ tmps w} hs => ?_⟩
      obtain ⟨vs, g1, g2, g3⟩ := h3 hs
      obtain ⟨v, k1, k2⟩ := hs.env t x h1
      refine ⟨v :: vs, ?_, by simp [g2], fun i y u hy hu => ?_⟩
      · have : (resVal tmps (.tmp t)).run P w = .ok v w := by simp [resVal, Array.getD_eq_getD_getElem?, k1]
        simp only [List.mapM_cons, Sem.run_bind, this, Result.andThen_ok, g1, Sem.run_pure]
      · cases i with
        | zero => simp at hy hu; subst hy; subst hu; exact k2
        | succ i => exact g3 i y u (by simpa using hy) (by simpa using hu)
    | cell a t =>
      obtain ⟨x, h1, h⟩ := ob_inv (show ob (look env a) (fun v => onP v fun n off => ld P t H n off fun x => resL P env H rs fun ys => κ (x :: ys)) = true from h)
      obtain ⟨n, off, ex, h⟩ := onP_inv h
      obtain ⟨l, s, y, l1, l2, l3, h⟩ := ld_inv h
      obtain ⟨xs, h2, h3⟩ := resL_ok h
      refine ⟨y :: xs, h2, fun {c φ tmps w} hs => ?_⟩
      obtain ⟨vs, g1, g2, g3⟩ := h3 hs
      rw [ex] at h1
      obtain ⟨v, k1, k2⟩ := hs.env a _ h1
      cases k2 with
      | ptr hlt =>
        obtain ⟨u0, q1, q2⟩ := load_own (P := P) (w := w) (hs.ok.obj n _ l1).2 l2 l3
        refine ⟨u0 :: vs, ?_, by simp [g2], fun i y u hy hu => ?_⟩
        · have : (resVal tmps (.cell a t)).run P w = .ok u0 w := by
            simp only [resVal, Array.getD_eq_getD_getElem?, k1, Option.getD_some, asAddr, Sem.run_bind, Sem.run_pure, Result.andThen_ok, q1]
          simp only [List.mapM_cons, Sem.run_bind, this, Result.andThen_ok, g1, Sem.run_pure]
        · cases i with
          | zero => rw [List.getElem?_cons_zero] at hy hu; cases hy; cases hu; exact q2
          | succ i => exact g3 i y u (by simpa using hy) (by simpa using hu)
theorem results_ok {env : Env} {H : Heap} {nx : Nat} {fn : Func} {κ : List MV → Bool} (h : resL P env H fn.results.toList κ = true) : ∃ xs, κ xs = true ∧ ∀ {c φ tmps w}, St ρ c nx env H φ tmps w →
    ∃ v, (results fn tmps).run P w = .ok v w ∧ Rel ρ φ nx (packM xs) v := by
  obtain ⟨xs, h1, h2⟩ := resL_ok (ρ := ρ) (nx := nx) h
  refine ⟨xs, h1, fun {c φ tmps w} hs => ?_⟩
  obtain ⟨vs, g1, g2, g3⟩ := h2 hs
  have hm : (fn.results.mapM (resVal tmps)).run P w = .ok vs.toArray w := by
    rw [Array.mapM_eq_mapM_toList, Sem.run_map, g1]; rfl
  have hr : results fn tmps = (do let vs ← fn.results.mapM (resVal tmps); pure (if h : vs.size = 1 then vs[0] else .tuple vs)) := by
    unfold results
    congr 1
  refine ⟨if h : vs.toArray.size = 1 then vs.toArray[0] else .tuple vs.toArray, by rw [hr, Sem.run_bind, hm]; rfl, ?_⟩
  match xs, vs, g2, g3 with
  | [x], [v], _, g3 =>
    have := g3 0 x v rfl rfl
    simpa [packM] using this
  | [], [], _, g3 => exact .tup [] #[] rfl (fun i d u hd => by simp at hd)
  | x :: x2 :: t, v :: v2 :: s, g2, g3 =>
    have : ¬ ((v :: v2 :: s).toArray.size = 1) := by simp
    rw [dif_neg this]
    exact .tup _ _ (by simpa using g2) fun i d u hd hu => g3 i d u hd (by simpa using hu)
theorem tfun_some {g : Nat} {r : Nat × Code × List ResultVar} (h : tfun P g = some r) : ∃ fn, P.funcs[g]? = some fn ∧ fn.body = some r.2.1 ∧ (fn.name == "runtime.NumGoroutine") = false ∧ fn.ntmps = r.1 ∧ roomC r.1 r.2.1 = true ∧ fn.results.toList = r.2.2 := by
  unfold tfun at h
  split at h
  · rename_i fn hf
    split at h
    · rename_i c hb
      cases hn : (fn.name == "runtime.NumGoroutine") with
      | true => rw [hn] at h; cases h
      | false =>
        rw [hn] at h
        obtain ⟨h1, h2⟩ := bi_some (show bi (roomC fn.ntmps c) (some (fn.ntmps, c, fn.results.toList)) none = some r from h)
        cases h2
        exact ⟨fn, hf, hb, hn, rfl, h1, rfl⟩
    · cases h
  · cases h
theorem stepF_ok (hD : OkD D ρ) (hdr : DrawOk ρ P D) {call : CallK} (hc : CallOk ρ P call) : CallOk ρ P (stepF P D call) := fun {g args nx H k} h => by
  obtain ⟨r, h1, h⟩ := ob_inv (show ob (tfun P g) _ = true from h)
  obtain ⟨h2, h⟩ := oc_inv h
  obtain ⟨fn, f1, f2, f3, f4, f5, f6⟩ := tfun_some h1
  have hle := Nat.le_of_ble_eq_true h2
  rw [len_eq] at hle
  obtain ⟨x, env', nx', H', k1, k2, k3⟩ := codeF_ok hD hdr hc r.2.1 _ _ _ _ h
  have fin : ∃ v, k v nx' H' = true ∧ (x = .ret ∨ x = .normal) ∧ ∀ {c φ tmps w}, St ρ c nx' env' H' φ tmps w → ∃ u, (results fn tmps).run P w = .ok u w ∧ Rel ρ φ nx' v u := by
    cases x with
    | normal =>
      obtain ⟨xs, g1, g2⟩ := results_ok (ρ := ρ) (nx := nx') (fn := fn) (show resL P env' H' fn.results.toList (fun xs => k (packM xs) nx' H') = true by rw [f6]; exact k1)
      exact ⟨_, g1, .inr rfl, g2⟩
    | exit i => cases (show false = true from k1)
    | ret =>
      obtain ⟨xs, g1, g2⟩ := results_ok (ρ := ρ) (nx := nx') (fn := fn) (show resL P env' H' fn.results.toList (fun xs => k (packM xs) nx' H') = true by rw [f6]; exact k1)
      exact ⟨_, g1, .inl rfl, g2⟩
  obtain ⟨v, hk, hx, hres⟩ := fin
  refine ⟨v, nx', H', ⟨⟨fn, f1, by rw [f2]; rfl, f3⟩, fun w φ vals hok hsz hargs => ?_⟩, hk, k2⟩
  let c : Ctx := { w0 := w, O0 := Own φ H, k := nx, φ0 := φ, nt := fn.ntmps }
  refine calls_of_wp f1 f2 ?_
  have hst : St ρ c nx (argE args 0) H φ (vals ++ Array.replicate (fn.ntmps - vals.size) undef) w := by
    refine ⟨hok, fun n a hk => ?_, Ext.refl _ _, ⟨Nat.le_refl _, fun n _ => rfl⟩, by show (vals ++ Array.replicate (fn.ntmps - vals.size) undef).size = fn.ntmps; simp; omega⟩
    rw [look_argE] at hk
    simp only [Nat.zero_le, if_true, Nat.sub_zero] at hk
    have hlt : n < vals.size := by rw [hsz]; exact (List.getElem?_eq_some_iff.1 hk).1
    exact ⟨vals[n], by rw [Array.getElem?_append, if_pos hlt]; simp [hlt], hargs n a vals[n] hk (by simp [hlt])⟩
  refine Code.wp_mono (fun e a w' hp => ?_) (k3 c (by show roomC fn.ntmps r.2.1 = true; rw [f4]; exact f5) φ _ w hst)
  obtain ⟨rfl, hd, φ', hs'⟩ := hp
  obtain ⟨u, u1, u2⟩ := hres hs'
  have key : a.defers = [] ∧ ∃ v', (results fn a.tmps).run P w' = .ok v' w' ∧ ∃ φ' v'', Ending.returned v' = .returned v'' ∧ Ok ρ φ' nx' H' w' ∧ Rel ρ φ' nx' v v'' ∧ Ext w w' (Own φ H) (Own φ' H') ∧ nx ≤ nx' ∧ ∀ n, n < nx → φ' n = φ n :=
    ⟨hd, u, u1, φ', u, rfl, hs'.ok, u2, hs'.ext, hs'.keep.1, hs'.keep.2⟩
  rcases hx with rfl | rfl
  · exact key
  · exact key
/-- Runs of whole functions are right. -/
theorem runF_ok (hD : OkD D ρ) (hdr : DrawOk ρ P D) : ∀ (n : Nat), CallOk ρ P (runF P D n)
  | 0 => fun h => by cases (show false = true from h)
  | n + 1 => stepF_ok hD hdr (runF_ok hD hdr n)
end
end Go.Proofs.YtnajikpdnccilaaGreat.Pv.M

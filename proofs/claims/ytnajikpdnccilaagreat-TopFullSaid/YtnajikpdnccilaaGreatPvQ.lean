/- Code: steps in a row, ways, rounds; a function as a whole. -/
import Derived.Test.YtnajikpdnccilaaGreatPvO
set_option linter.unusedVariables false
set_option linter.unusedSimpArgs false
namespace Go.Proofs.YtnajikpdnccilaaGreat.Pv
open Go

inductive Ex where
  | normal
  | exit (id : Nat)
  | ret
  deriving DecidableEq

def Ex.to : Ex → Exit
  | .normal => .normal
  | .exit i => .exit i
  | .ret => .ret

abbrev Post := Ex → Env → Nat → Heap → Prop

def PostOf (c : Ctx) (Q : Post) : Exit → Act → World → Prop :=
  fun e a w => ∃ x env nx H φ, e = x.to ∧ a.defers = [] ∧ StΦ c nx env H φ a.tmps w ∧ Q x env nx H

/-- A piece of code, from all that fits. -/
def W (P : Program) (c : Ctx) (code : Code) (env : Env) (nx : Nat) (H : Heap) (Q : Post) : Prop :=
  ∀ φ tmps w, StΦ c nx env H φ tmps w → code.wp P (PostOf c Q) (act tmps) w

def thenP (next : Env → Nat → Heap → Prop) (Q : Post) : Post
  | .normal, env, nx, H => next env nx H
  | x, env, nx, H => Q x env nx H

def blockP (id : Nat) (Q : Post) : Post
  | .exit i, env, nx, H => if i = id then Q .normal env nx H else Q (.exit i) env nx H
  | x, env, nx, H => Q x env nx H

/-- Code, but for its rounds and its drawn regions. -/
def wpc (P : Program) (tab : Tab) (c : Ctx) (nt : Nat) : Code → Env → Nat → Heap → Post → Prop
  | .skip, env, nx, H, Q => Q .normal env nx H
  | .seq a b, env, nx, H, Q => wpc P tab c nt a env nx H (thenP (fun env nx H => wpc P tab c nt b env nx H Q) Q)
  | .cond x t e, env, nx, H, Q => ∃ b, ev env x = some (.f (.v (.bool b))) ∧ (b = true → wpc P tab c nt t env nx H Q) ∧ (b = false → wpc P tab c nt e env nx H Q)
  | .region _ ops false, env, nx, H, Q => wpl P tab nt ops ops.toList env nx H (Q .normal)
  | .region id ops true, env, nx, H, Q => W P c (.region id ops true) env nx H Q
  | .block id body, env, nx, H, Q => wpc P tab c nt body env nx H (blockP id Q)
  | .loop body, env, nx, H, Q => W P c (.loop body) env nx H Q
  | .exit id, env, nx, H, Q => Q (.exit id) env nx H
  | .ret, env, nx, H, Q => Q .ret env nx H
  | _, _, _, _, _ => False

section
variable {P : Program} {tab : Tab} {c : Ctx} {nx : Nat} {env : Env} {H H' : Heap}

theorem wpc_mono : ∀ {code : Code} {env : Env} {nx : Nat} {H : Heap} {Q Q' : Post} {nt : Nat}, (∀ x env nx H, Q x env nx H → Q' x env nx H) → wpc P tab c nt code env nx H Q → W P c code env nx H Q → W P c code env nx H Q'
  | _, _, _, _, _, _, _, hq, _, h => fun φ tmps w hs => Code.wp_mono (fun e a w ⟨x, env, nx, H, φ, h1, h2, h3, h4⟩ => ⟨x, env, nx, H, φ, h1, h2, h3, hq _ _ _ _ h4⟩) (h φ tmps w hs)

theorem W.mono {code : Code} {Q Q' : Post} (hq : ∀ x env nx H, Q x env nx H → Q' x env nx H) (h : W P c code env nx H Q) : W P c code env nx H Q' :=
  fun φ tmps w hs => Code.wp_mono (fun e a w ⟨x, env, nx, H, φ, h1, h2, h3, h4⟩ => ⟨x, env, nx, H, φ, h1, h2, h3, hq _ _ _ _ h4⟩) (h φ tmps w hs)

theorem act_eta {a : Act} (h : a.defers = []) : a = act a.tmps := by cases a; simp_all

theorem W_seq {a b : Code} {Q : Post} (h : W P c a env nx H (thenP (fun env nx H => W P c b env nx H Q) Q)) : W P c (.seq a b) env nx H Q := by
  intro φ tmps w hs
  refine wp_seq (Code.wp_mono (fun e a w hp => ?_) (h φ tmps w hs))
  obtain ⟨x, env', nx', H', φ', rfl, h2, h3, h4⟩ := hp
  cases x with
  | normal =>
    show (b.wp P (PostOf c Q) a w)
    rw [act_eta h2]
    exact h4 φ' a.tmps w h3
  | exit i => exact ⟨.exit i, env', nx', H', φ', rfl, h2, h3, h4⟩
  | ret => exact ⟨.ret, env', nx', H', φ', rfl, h2, h3, h4⟩

theorem wpc_ok (ht : TabOk P tab) : ∀ (code : Code) (env : Env) (nx : Nat) (H : Heap) (Q : Post), wpc P tab c c.nt code env nx H Q → W P c code env nx H Q
  | .skip, env, nx, H, Q, h => fun φ tmps w hs => wp_skip ⟨.normal, env, nx, H, φ, rfl, rfl, hs, h⟩
  | .seq a b, env, nx, H, Q, h => by
    have h1 := wpc_ok ht a env nx H _ h
    exact W_seq (h1.mono fun x env nx H hx => by
      cases x with
      | normal => exact wpc_ok ht b env nx H Q hx
      | exit i => exact hx
      | ret => exact hx)
  | .cond x t e, env, nx, H, Q, h => fun φ tmps w hs => by
    obtain ⟨b, h1, h2, h3⟩ := h
    have hv := (ev_rep hs h1).v_inv
    refine wp_cond_split (t := b) hv (fun hb => wpc_ok ht t env nx H Q (h2 hb) φ tmps w hs) (fun hb => wpc_ok ht e env nx H Q (h3 hb) φ tmps w hs)
  | .region id ops false, env, nx, H, Q, h => fun φ tmps w hs =>
    wp_region_list (wpl_ok ht (fun env nx H φ tmps w hc hs => ⟨.normal, env, nx, H, φ, rfl, rfl, hs, hc⟩) ops.toList env nx H φ tmps w hs h)
  | .region id ops true, env, nx, H, Q, h => h
  | .block id body, env, nx, H, Q, h => fun φ tmps w hs => by
    refine wp_block (Code.wp_mono (fun e a w hp => ?_) (wpc_ok ht body env nx H _ h φ tmps w hs))
    obtain ⟨x, env', nx', H', φ', rfl, h2, h3, h4⟩ := hp
    cases x with
    | normal => exact ⟨.normal, env', nx', H', φ', rfl, h2, h3, h4⟩
    | ret => exact ⟨.ret, env', nx', H', φ', rfl, h2, h3, h4⟩
    | exit i =>
      show (if i = id then PostOf c Q .normal a w else PostOf c Q (.exit i) a w)
      simp only [blockP] at h4
      by_cases hi : i = id
      · rw [if_pos hi] at h4 ⊢; exact ⟨.normal, env', nx', H', φ', rfl, h2, h3, h4⟩
      · rw [if_neg hi] at h4 ⊢; exact ⟨.exit i, env', nx', H', φ', rfl, h2, h3, h4⟩
  | .loop body, env, nx, H, Q, h => h
  | .exit id, env, nx, H, Q, h => fun φ tmps w hs => wp_exit ⟨.exit id, env, nx, H, φ, rfl, rfl, hs, h⟩
  | .ret, env, nx, H, Q, h => fun φ tmps w hs => wp_ret ⟨.ret, env, nx, H, φ, rfl, rfl, hs, h⟩
  | .rangeFunc .., _, _, _, _, h => h.elim
  | .scope .., _, _, _, _, h => h.elim
  | .label .., _, _, _, _, h => h.elim
  | .goto .., _, _, _, _, h => h.elim
  | .refuse .., _, _, _, _, h => h.elim

/-! ### Names anew -/

def inv (ps : List (Nat × Nat)) : List (Nat × Nat) := ps.map fun p => (p.2, p.1)
def tauP (ps : List (Nat × Nat)) (n : Nat) : Nat := (look (inv ps) n).getD 0
def hasP (ps : List (Nat × Nat)) (n : Nat) : Bool := (look (inv ps) n).isSome
/-- Names here, names there; each once; those that came in stay. -/
def pairsOk (k nx : Nat) (ps : List (Nat × Nat)) : Bool :=
  ps.all fun p => look ps p.1 == some p.2 && look (inv ps) p.2 == some p.1 && decide (p.1 < nx) && (decide (k ≤ p.1) || p.1 == p.2)

def SubEnv (ps : List (Nat × Nat)) : Env → Env → Prop
  | [], _ => True
  | (k, pv) :: t, env2 => (∃ p2, look env2 k = some p2 ∧ has (hasP ps) p2 = true ∧ ren (tauP ps) p2 = pv) ∧ SubEnv ps t env2

def SubHeap (ps : List (Nat × Nat)) : Heap → Heap → Prop
  | [], _ => True
  | (n, o) :: t, H2 => (∃ m o2, look ps n = some m ∧ look H2 m = some o2 ∧ hasO (hasP ps) o2 = true ∧ renO (tauP ps) o2 = o) ∧ SubHeap ps t H2

theorem SubEnv.get {ps : List (Nat × Nat)} : ∀ {env1 env2 : Env}, SubEnv ps env1 env2 → ∀ k pv, look env1 k = some pv → ∃ p2, look env2 k = some p2 ∧ has (hasP ps) p2 = true ∧ ren (tauP ps) p2 = pv
  | [], _, _, k, pv, h => by simp [look] at h
  | (q, x) :: t, env2, hs, k, pv, h => by
    simp only [look] at h
    split at h
    · rename_i e; subst e; cases h; exact hs.1
    · exact SubEnv.get hs.2 k pv h

theorem SubHeap.get {ps : List (Nat × Nat)} : ∀ {H1 H2 : Heap}, SubHeap ps H1 H2 → ∀ n o, look H1 n = some o → ∃ m o2, look ps n = some m ∧ look H2 m = some o2 ∧ hasO (hasP ps) o2 = true ∧ renO (tauP ps) o2 = o
  | [], _, _, n, o, h => by simp [look] at h
  | (q, x) :: t, H2, hs, n, o, h => by
    simp only [look] at h
    split at h
    · rename_i e; subst e; cases h; exact hs.1
    · exact SubHeap.get hs.2 n o h

theorem look_inv {ps : List (Nat × Nat)} {n m : Nat} (h : look (inv ps) m = some n) : (n, m) ∈ ps := by
  have := look_mem h
  simp only [inv, List.mem_map] at this
  obtain ⟨p, h1, h2⟩ := this
  cases h2; exact h1

/-- The same, told by other names. -/
theorem Ok.renamed {φ : Nat → Phys} {So : Nat → Nat → Prop} {w : World} {nx1 k : Nat} {H1 : Heap} {ps : List (Nat × Nat)} (h : Ok φ nx So H w) (hp : pairsOk k nx1 ps = true) (hH : SubHeap ps H1 H) :
    ∃ φ1, Ok φ1 nx1 So H1 w ∧ (∀ b off, Own φ1 H1 b off → Own φ H b off) ∧ (∀ x v, Rep φ nx w (SS So φ H) x v → has (hasP ps) x = true → Rep φ1 nx1 w (SS So φ1 H1) (ren (tauP ps) x) v) ∧ ∀ n, n < k → φ1 n = φ n := by
  let φ1 : Nat → Phys := fun n => φ ((look ps n).getD n)
  have hpair : ∀ n m, (n, m) ∈ ps → look ps n = some m ∧ look (inv ps) m = some n ∧ n < nx1 ∧ (k ≤ n ∨ n = m) := by
    intro n m hm
    have := List.all_eq_true.1 hp _ hm
    simp only [Bool.and_eq_true, beq_iff_eq, decide_eq_true_eq, Bool.or_eq_true] at this
    exact ⟨this.1.1.1, this.1.1.2, this.1.2, this.2⟩
  have hτ : ∀ n, n < nx → hasP ps n = true → φ1 (tauP ps n) = φ n ∧ tauP ps n < nx1 := by
    intro n _ hn
    unfold hasP at hn
    cases hq : look (inv ps) n with
    | none => rw [hq] at hn; cases hn
    | some a =>
      obtain ⟨a1, a2, a3, a4⟩ := hpair a n (look_inv hq)
      have ht : tauP ps n = a := by simp [tauP, hq]
      exact ⟨by simp only [φ1, ht, a1, Option.getD_some], by rw [ht]; exact a3⟩
  have hget := @SubHeap.get ps H1 H hH
  have hφn : ∀ n m, look ps n = some m → φ1 n = φ m := fun n m h => by simp only [φ1, h, Option.getD_some]
  have hown : ∀ b off, Own φ1 H1 b off → Own φ H b off := by
    rintro b off ⟨n, o, h1, h2, h3, h4⟩
    obtain ⟨m, o2, g1, g2, g3, rfl⟩ := hget n o h1
    rw [hφn n m g1] at h2 h3 h4
    rw [lim_renO] at h4
    exact ⟨m, o2, g2, h2, h3, h4⟩
  have hmono : Mono w (SS So φ H) w (SS So φ1 H1) := by
    intro b off u hc hS
    refine ⟨hc, ?_⟩
    rintro (hs | hs)
    · exact hS (.inl hs)
    · exact hS (.inr (hown b off hs))
  refine ⟨φ1, ⟨fun n o hn => ?_, fun n m o1 o2 h1 h2 hne n1 n2 => ?_, fun n o hn hnil off => ?_⟩, hown, fun x v hr hx => ?_, fun n hn => ?_⟩
  · obtain ⟨m, o2, g1, g2, g3, rfl⟩ := hget n o hn
    obtain ⟨a1, a2, a3, a4⟩ := hpair n m (look_mem g1)
    obtain ⟨b1, b2⟩ := h.obj m o2 g2
    have := (b2.step (φ' := φ) (nx' := nx) (w' := w) (S' := SS So φ1 H1) (fun _ _ => rfl) (Nat.le_refl _) hmono b1 fun _ => rfl).ren hτ (S2 := SS So φ1 H1) (m := n) (fun _ _ => Iff.rfl) (hφn n m g1) g3
    exact ⟨a3, this⟩
  · obtain ⟨p, oo1, g1, g2, g3, rfl⟩ := hget n o1 h1
    obtain ⟨q, oo2, j1, j2, j3, rfl⟩ := hget m o2 h2
    rw [hφn n p g1] at n1 ⊢
    rw [hφn m q j1] at n2 ⊢
    refine h.dis p q oo1 oo2 g2 j2 (fun e => hne ?_) n1 n2
    subst e
    have e1 := (hpair n p (look_mem g1)).2.1
    have e2 := (hpair m p (look_mem j1)).2.1
    rw [e1] at e2; cases e2; rfl
  · obtain ⟨m, o2, g1, g2, g3, rfl⟩ := hget n o hn
    rw [hφn n m g1] at hnil ⊢
    exact h.out m o2 g2 hnil off
  · exact (hr.step (fun _ _ => rfl) (Nat.le_refl _) hmono).ren hτ hx
  · simp only [φ1]
    cases hq : look ps n with
    | none => rfl
    | some m =>
      obtain ⟨a1, a2, a3, a4⟩ := hpair n m (look_mem hq)
      rcases a4 with h | h
      · omega
      · subst h; rfl

/-- What is known is as much as this. -/
def Emb (k : Nat) (env1 : Env) (nx1 : Nat) (H1 : Heap) (env2 : Env) (H2 : Heap) : Prop :=
  ∃ ps, pairsOk k nx1 ps = true ∧ SubEnv ps env1 env2 ∧ SubHeap ps H1 H2 ∧ k ≤ nx1

theorem StΦ.emb {φ : Nat → Phys} {tmps : Array Value} {w : World} {env1 : Env} {nx1 : Nat} {H1 : Heap} (h : StΦ c nx env H φ tmps w) (he : Emb c.k env1 nx1 H1 env H) : ∃ φ1, StΦ c nx1 env1 H1 φ1 tmps w := by
  obtain ⟨ps, h1, h2, h3, h4⟩ := he
  obtain ⟨φ1, a1, a2, a3, a4⟩ := h.ok.renamed h1 h3
  refine ⟨φ1, a1, fun k pv hk => ?_, ?_, ⟨h4, fun n hn => by rw [a4 n hn]; exact h.keep.2 n hn⟩, h.size⟩
  · obtain ⟨p2, b1, b2, rfl⟩ := h2.get k pv hk
    obtain ⟨v, c1, c2⟩ := h.env k p2 b1
    exact ⟨v, c1, a3 p2 v c2 b2⟩
  · have e := h.ext
    exact ⟨e.os, e.tape, e.output, e.size, e.blk, e.cell, fun b off hb ho => e.own b off hb (a2 b off ho)⟩

theorem W.emb {code : Code} {Q : Post} {env1 : Env} {nx1 : Nat} {H1 : Heap} (he : Emb c.k env1 nx1 H1 env H) (h : W P c code env1 nx1 H1 Q) : W P c code env nx H Q := by
  intro φ tmps w hs
  obtain ⟨φ1, hs1⟩ := hs.emb he
  exact h φ1 tmps w hs1

/-- Rounds: a family of states, a measure. -/
theorem W_loop {α : Type} {body : Code} {Q : Post} (E : α → Env) (N : α → Nat) (G : α → Heap) (μ : α → Nat) (x0 : α) (h0 : Emb c.k (E x0) (N x0) (G x0) env H)
    (round : ∀ x, W P c body (E x) (N x) (G x) (thenP (fun env' _ H' => ∃ y, μ y < μ x ∧ Emb c.k (E y) (N y) (G y) env' H') Q)) : W P c (.loop body) env nx H Q := by
  intro φ tmps w hs
  obtain ⟨φ1, hs1⟩ := hs.emb h0
  intro b k cs
  have key : ∀ n x φ (tmps : Array Value) w, μ x = n → StΦ c (N x) (E x) (G x) φ tmps w →
      ∃ e a' w', PostOf c Q e a' w' ∧ Arrives P (lone (b.at (act tmps) (.code body :: .inLoop body :: k)) cs w) b k cs e a' w' := by
    intro n
    induction n using Nat.strongRecOn with
    | _ n ih =>
      intro x φ tmps w hx hst
      obtain ⟨e, a₁, w₁, hq, harr⟩ := round x φ tmps w hst b (.inLoop body :: k) cs
      obtain ⟨y, env', nx', H', φ', rfl, h2, h3, h4⟩ := hq
      cases y with
      | normal =>
        obtain ⟨z, hz, hemb⟩ := h4
        obtain ⟨φz, hsz⟩ := h3.emb hemb
        obtain ⟨e₂, a₂, w₂, hq₂, harr₂⟩ := ih (μ z) (hx ▸ hz) z φz a₁.tmps w₁ rfl hsz
        rw [← act_eta h2] at harr₂
        exact ⟨e₂, a₂, w₂, hq₂, .of_steps (Steps.trans harr (.one step_inLoop)) harr₂⟩
      | exit i => exact ⟨_, a₁, w₁, ⟨.exit i, env', nx', H', φ', rfl, h2, h3, h4⟩, .pass (x := .inLoop body) rfl (fun _ _ => .inl (by simp [Ex.to])) harr⟩
      | ret => exact ⟨_, a₁, w₁, ⟨.ret, env', nx', H', φ', rfl, h2, h3, h4⟩, .pass (x := .inLoop body) rfl (fun _ _ => .inl (by simp [Ex.to])) harr⟩
  obtain ⟨e, a', w', hq, harr⟩ := key _ x0 φ1 tmps w rfl hs1
  exact ⟨e, a', w', hq, .of_steps (.one step_loop) harr⟩
end
end Go.Proofs.YtnajikpdnccilaaGreat.Pv

/- A row of operations cut in two; ways of a choice brought together. -/
import Derived.Test.YteedhlgdbankiaaPvAF
set_option linter.unusedVariables false
set_option linter.unusedSimpArgs false
namespace Go.Proofs.Yteedhlgdbankiaa.Pv
open Go

section
variable {P : Program} {Q Q' : Exit → Act → World → Prop}
theorem letsOut_imp (hq : ∀ e a w, e ≠ .normal → Q e a w → Q' e a w) (h : LetsOut Q) : LetsOut Q' := by
  obtain ⟨a, w, h⟩ := h
  exact ⟨a, w, hq _ _ _ (by simp) h⟩
theorem wp_imp {o : Oper} {a : Act} {w : World} {K K' : Act → World → Prop} (hq : ∀ e a w, e ≠ .normal → Q e a w → Q' e a w) (h : ∀ a w, K a w → K' a w)
    (hh : o.wp P a w K Q) : o.wp P a w K' Q' := by
  unfold Oper.wp at *
  generalize (execOp a.eval o).run P w = r at *
  cases r with
  | ok n w' =>
    cases n <;> simp only [Oper.upon] at hh ⊢ <;>
      first
        | exact h _ _ hh
        | exact Calls.mono hh (fun e w'' he => by cases e <;> first | exact h _ _ he | exact hq _ _ _ (by simp) he | exact letsOut_imp hq he)
        | exact Rows.mono hh (fun _ _ he => h _ _ he)
  | halt x w' => cases x <;> simp only [Oper.upon] at hh ⊢ <;> first | exact hh | exact hq _ _ _ (by simp) hh
theorem wpList_cut {ops : Array Oper} : ∀ (n : Nat) (l : List Oper) (a : Act) (w : World), (∀ e a w, e ≠ .normal → Q e a w → Q' e a w) → (∀ a w, Q .normal a w → wpList P ops Q' (l.drop n) a w) →
    wpList P ops Q (l.take n) a w → wpList P ops Q' l a w
  | 0, l, a, w, hq, hn, h => hn a w h
  | n + 1, [], a, w, hq, hn, h => hn a w h
  | n + 1, o :: l, a, w, hq, hn, h => by
    simp only [List.take_succ_cons, wpList] at h ⊢
    split
    · rename_i hw
      rw [if_pos hw] at h
      rcases h with h | h
      · exact .inl (wp_imp hq (fun a w => wpList_cut n l a w hq hn) h)
      · exact .inr ⟨h.1, letsOut_imp hq h.2⟩
    · rename_i hw
      rw [if_neg hw] at h
      exact wpList_cut n l _ w hq hn h
end
section
variable {P : Program} {c : Ctx} {nx : Nat} {env : Env} {H : Heap} {Q : Post} {ops : Array Oper} {l : List Oper}
theorem R_cut (n : Nat) {mid : Env → Nat → Heap → Prop} (h1 : R P c ops (l.take n) env nx H (thenP mid Q)) (h2 : ∀ env nx H, mid env nx H → R P c ops (l.drop n) env nx H Q) : R P c ops l env nx H Q := by
  intro φ tmps w hs
  refine wpList_cut n l (act tmps) w ?_ ?_ (h1 φ tmps w hs)
  · rintro e a w he ⟨x, env, nx, H, φ, e1, e2, e3, e4⟩
    refine ⟨x, env, nx, H, φ, e1, e2, e3, ?_⟩
    cases x with
    | normal => exact absurd e1 he
    | exit i => exact e4
    | ret => exact e4
  · rintro a w ⟨x, env, nx, H, φ, e1, e2, e3, e4⟩
    cases x with
    | exit i => cases e1
    | ret => cases e1
    | normal =>
      have := h2 env nx H e4 φ a.tmps w e3
      obtain ⟨tm, df⟩ := a
      simp only at e2
      subst e2
      exact this
theorem r_cut0 (n : Nat) (E : Env) (h1 : R P c ops (l.take n) env nx H (thenP (fun env' nx' H' => SubE E env' ∧ nx' = nx ∧ H' = H) Q)) (h2 : R P c ops (l.drop n) E nx H Q) : R P c ops l env nx H Q :=
  R_cut n h1 fun env' nx' H' h => by
    obtain ⟨a, b, d⟩ := h
    subst b; subst d
    exact r_set E H' nx' a rfl rfl h2
theorem r_mid {mid : Env → Nat → Heap → Prop} (h : mid env nx H) : R P c ops [] env nx H (thenP mid Q) := r_end h
end
section
variable {P : Program} {tab : Tab} {nx : Nat} {env : Env} {H : Heap} {K : PV → Nat → Heap → Prop}
theorem s_pickTF {x : Operand} {t : Bool} (h : ev env x = some (.f (.v (.bool t)))) (k : K (.f (.v (.bool t))) nx H) : stepOp P tab env nx H K (.pick x (.const (.bool true)) (.const (.bool false))) :=
  ⟨t, h, fun e => (by subst e; exact ⟨_, rfl, k⟩), fun e => (by subst e; exact ⟨_, rfl, k⟩)⟩
theorem sB : (∀ (p : Prop) [Decidable p], (decide p = true) = p) ∧ (∀ (p : Prop) [Decidable p], (decide p = false) = ¬p) ∧ (∀ b : Bool, ((!b) = true) = (b = false)) ∧ (∀ b : Bool, ((!b) = false) = (b = true)) ∧ ((!true) = false) ∧ ((!false) = true) ∧ (∀ a b : Int, (¬a < b) = (b ≤ a)) ∧ (∀ a b : Int, (¬a ≤ b) = (b < a)) :=
  ⟨fun p _ => by simp, fun p _ => by simp, fun b => by simp, fun b => by simp, rfl, rfl, fun a b => by simp, fun a b => by simp⟩
theorem mix_at {x u : Bool} (h : x = true) : pB u = pB (x && u) := by subst h; rfl
theorem mix_af {x : Bool} (u : Bool) (h : x = false) : pB false = pB (x && u) := by subst h; rfl
theorem mix_ot {x : Bool} (u : Bool) (h : x = true) : pB true = pB (x || u) := by subst h; rfl
theorem mix_of {x u : Bool} (h : x = false) : pB u = pB (x || u) := by subst h; rfl
theorem wrap8 (z : Int) : IntKind.u8.wrap z = z % 256 := by
  have e1 : IntKind.u8.signed = false := rfl
  have e2 : IntKind.u8.bits = 8 := rfl
  simp only [IntKind.wrap, e1, e2]
  rw [show (2:Int) ^ 8 = 256 from rfl]; simp
theorem wrap16 (z : Int) : IntKind.u16.wrap z = z % 65536 := by
  have e1 : IntKind.u16.signed = false := rfl
  have e2 : IntKind.u16.bits = 16 := rfl
  simp only [IntKind.wrap, e1, e2]
  rw [show (2:Int) ^ 16 = 65536 from rfl]; simp
theorem s_add8 {t u : Nat} {x y : Operand} {a b : UInt8} (h1 : ev env x = some (p8 a)) (h2 : ev env y = some (p8 b)) (k : K (p8 (a + b)) nx H) : stepOp P tab env nx H K (.binOp .add t x y u) :=
  s_add h1 h2 (by
    have e : IntKind.u8.wrap (((a.toNat : Nat) : Int) + ((b.toNat : Nat) : Int)) = (((a + b).toNat : Nat) : Int) := by
      rw [wrap8, UInt8.toNat_add]; omega
    rw [e]; exact k)
theorem s_add16 {t u : Nat} {x y : Operand} {a b : UInt16} (h1 : ev env x = some (p16 a)) (h2 : ev env y = some (p16 b)) (k : K (p16 (a + b)) nx H) : stepOp P tab env nx H K (.binOp .add t x y u) :=
  s_add h1 h2 (by
    have e : IntKind.u16.wrap (((a.toNat : Nat) : Int) + ((b.toNat : Nat) : Int)) = (((a + b).toNat : Nat) : Int) := by
      rw [wrap16, UInt16.toNat_add]; omega
    rw [e]; exact k)
theorem s_sub8 {t u : Nat} {x y : Operand} {a b : UInt8} (h1 : ev env x = some (p8 a)) (h2 : ev env y = some (p8 b)) (k : K (p8 (a - b)) nx H) : stepOp P tab env nx H K (.binOp .sub t x y u) :=
  s_sub h1 h2 (by
    have e : IntKind.u8.wrap (((a.toNat : Nat) : Int) - ((b.toNat : Nat) : Int)) = (((a - b).toNat : Nat) : Int) := by
      have := a.toNat_lt; have := b.toNat_lt
      rw [wrap8, UInt8.toNat_sub]; omega
    rw [e]; exact k)
end
end Go.Proofs.Yteedhlgdbankiaa.Pv

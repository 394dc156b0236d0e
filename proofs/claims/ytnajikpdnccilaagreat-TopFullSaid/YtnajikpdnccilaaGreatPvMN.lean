/- Whole numbers over variables: what is found sure is so. -/
import Derived.Test.YtnajikpdnccilaaGreatPvMB
set_option linter.unusedVariables false
set_option linter.unusedSimpArgs false
namespace Go.Proofs.YtnajikpdnccilaaGreat.Pv.M
open Go

theorem ile_eq (a b : Int) : ile a b = decide (a ≤ b) := by
  cases a with
  | ofNat m => cases b with
    | ofNat n =>
      show Nat.ble m n = _
      by_cases h : m ≤ n
      · rw [decide_eq_true (by simp only [Int.ofNat_eq_natCast]; omega)]; exact Nat.ble_eq_true_of_le h
      · rw [decide_eq_false (by simp only [Int.ofNat_eq_natCast]; omega)]
        cases hb : Nat.ble m n; rfl; exact absurd (Nat.le_of_ble_eq_true hb) h
    | negSucc n => exact (decide_eq_false (by simp only [Int.ofNat_eq_natCast]; omega)).symm
  | negSucc m => cases b with
    | ofNat n => exact (decide_eq_true (by simp only [Int.ofNat_eq_natCast]; omega)).symm
    | negSucc n =>
      show Nat.ble n m = _
      by_cases h : n ≤ m
      · rw [decide_eq_true (by omega)]; exact Nat.ble_eq_true_of_le h
      · rw [decide_eq_false (by omega)]
        cases hb : Nat.ble n m; rfl; exact absurd (Nat.le_of_ble_eq_true hb) h
theorem ieq_eq (a b : Int) : ieq a b = decide (a = b) := by
  have nb : ∀ m n : Nat, Nat.beq m n = decide (m = n) := fun m n => by
    by_cases h : m = n
    · subst h; rw [decide_eq_true rfl]; exact Nat.beq_refl m
    · rw [decide_eq_false h]; cases hb : Nat.beq m n; rfl; exact absurd (Nat.eq_of_beq_eq_true hb) h
  cases a with
  | ofNat m => cases b with
    | ofNat n => show Nat.beq m n = _; rw [nb]; exact decide_eq_decide.2 (by simp only [Int.ofNat_eq_natCast]; omega)
    | negSucc n => exact (decide_eq_false (by simp only [Int.ofNat_eq_natCast]; omega)).symm
  | negSucc m => cases b with
    | ofNat n => exact (decide_eq_false (by simp only [Int.ofNat_eq_natCast]; omega)).symm
    | negSucc n => show Nat.beq n m = _; rw [nb]; exact decide_eq_decide.2 (by omega)
theorem iadd_eq (a b : Int) : iadd a b = a + b := by cases a <;> cases b <;> first | rfl | (show Int.ofNat _ = _; simp only [Int.ofNat_eq_natCast]; rw [show ∀ m n : Nat, Nat.add m n = m + n from fun _ _ => rfl]; omega)
theorem imul_eq (a b : Int) : imul a b = a * b := by
  cases a <;> cases b <;> first | rfl | (show Int.ofNat _ = _; simp only [Int.ofNat_eq_natCast]; rw [show ∀ m n : Nat, Nat.mul m n = m * n from fun _ _ => rfl]; simp)
theorem isub_eq (a b : Int) : isub a b = a - b := by
  cases a with
  | ofNat m => cases b with
    | ofNat n =>
      show Bool.rec (motive := fun _ => Int) _ _ (Nat.ble n m) = _
      cases h : Nat.ble n m with
      | false => rfl
      | true =>
        have := Nat.le_of_ble_eq_true h
        show Int.ofNat (Nat.sub m n) = _
        simp only [Int.ofNat_eq_natCast]; rw [show ∀ m n : Nat, Nat.sub m n = m - n from fun _ _ => rfl]; omega
    | negSucc n => rfl
  | negSucc m => rfl
theorem wrap_fit {k : IntKind} {c : Int} (h1 : -(kminN k : Int) ≤ c) (h2 : c ≤ (kmaxN k : Int)) : k.wrap c = c := by
  cases k <;> simp only [kminN, kmaxN] at h1 h2 <;> simp only [IntKind.wrap, IntKind.bits, IntKind.signed, Bool.true_and, Bool.false_and, Bool.false_eq_true, if_false]
  case i8 => by_cases h : c % 2 ^ 8 ≥ 2 ^ (8 - 1) <;> simp [h] <;> omega
  case i16 => by_cases h : c % 2 ^ 16 ≥ 2 ^ (16 - 1) <;> simp [h] <;> omega
  case i32 => by_cases h : c % 2 ^ 32 ≥ 2 ^ (32 - 1) <;> simp [h] <;> omega
  case i64 => by_cases h : c % 2 ^ 64 ≥ 2 ^ (64 - 1) <;> simp [h] <;> omega
  all_goals omega
theorem fitN_ok {k : IntKind} {c : Int} (h : fitN k c = true) : k.wrap c = c := by
  cases c with
  | ofNat m =>
    have := Nat.le_of_ble_eq_true (show Nat.ble m (kmaxN k) = true from h)
    exact wrap_fit (by simp only [Int.ofNat_eq_natCast]; omega) (by simp only [Int.ofNat_eq_natCast]; omega)
  | negSucc m =>
    have := Nat.le_of_ble_eq_true (show Nat.ble (Nat.succ m) (kminN k) = true from h)
    exact wrap_fit (by omega) (by omega)
theorem wrapN_ok {k : IntKind} {c : Int} {κ : MV → Bool} (h : wrapN k c κ = true) : κ (.n k (k.wrap c)) = true := by
  have h : Bool.rec (motive := fun _ => Bool) (κ (.n k (k.wrap c))) (κ (.n k c)) (fitN k c) = true := h
  cases hf : fitN k c with
  | false => rw [hf] at h; exact h
  | true => rw [hf] at h; rw [fitN_ok hf]; exact h

section
variable {ρ : Nat → Int}
theorem dot_neg : ∀ (l : List Int) (i : Nat), dot ρ i (negL l) = - dot ρ i l
  | [], i => by simp [negL, dot]
  | a :: l, i => by simp only [negL, dot, dot_neg l, Int.neg_mul]; omega
theorem dot_add : ∀ (l m : List Int) (i : Nat), dot ρ i (addL l m) = dot ρ i l + dot ρ i m
  | [], m, i => by simp [addL, dot]
  | a :: l, [], i => by simp [addL, dot]
  | a :: l, b :: m, i => by simp only [addL, dot, dot_add l m, Int.add_mul]; omega
theorem dot_mul (k : Int) : ∀ (l : List Int) (i : Nat), dot ρ i (mulL k l) = k * dot ρ i l
  | [], i => by simp [mulL, dot]
  | a :: l, i => by simp only [mulL, dot, dot_mul k l, Int.mul_add, Int.mul_assoc]
theorem dot_zero : ∀ {l : List Int} (i : Nat), zeroL l = true → dot ρ i l = 0
  | [], i, _ => rfl
  | a :: l, i, h => by
    simp only [zeroL, ieq_eq] at h
    by_cases ha : a = 0
    · subst ha; simp only [decide_true, cond_true] at h; simp [dot, dot_zero (i + 1) h]
    · simp [ha] at h
theorem dot_div (m : Int) : ∀ (l : List Int) (i : Nat), dot ρ i l = m * dot ρ i (divL m l) + dot ρ i (modL m l)
  | [], i => by simp [divL, modL, dot]
  | a :: l, i => by
    simp only [divL, modL, dot, ieq_eq]
    rw [dot_div m l (i + 1)]
    by_cases h : a % m = 0
    · have e : a = m * (a / m) := by have := Int.mul_ediv_add_emod a m; omega
      simp only [h, decide_true, cond_true, Int.zero_mul, Int.mul_add, Int.zero_add]
      have e2 : a * ρ i = m * (a / m * ρ i) := by rw [← Int.mul_assoc, ← e]
      rw [e2]; omega
    · simp only [h, decide_false, cond_false, Int.zero_mul, Int.mul_add, Int.mul_zero]; omega
/-- The variables are as is known. -/
structure OkD (D : Dm) (ρ : Nat → Int) : Prop where
  bs : ∀ (i : Nat) b, D.bs[i]? = some b → b.1 ≤ ρ i ∧ ρ i ≤ b.2
  fs : ∀ f ∈ D.fs, 0 ≤ f.1 + dot ρ 0 f.2
theorem loL_ok : ∀ {l : List Int} {bs : List (Int × Int)} {r : Int} {i : Nat}, loL l bs = some r → (∀ (j : Nat) b, bs[j]? = some b → b.1 ≤ ρ (i + j) ∧ ρ (i + j) ≤ b.2) → r ≤ dot ρ i l
  | [], bs, r, i, h, _ => by simp only [loL, Option.some.injEq] at h; subst h; exact Int.le_refl _
  | a :: l, [], r, i, h, _ => by simp [loL] at h
  | a :: l, b :: bs, r, i, h, hb => by
    simp only [loL] at h
    cases hr : loL l bs with
    | none => rw [hr] at h; cases h
    | some r0 =>
      rw [hr] at h
      simp only [Option.some.injEq] at h
      have ih := loL_ok (i := i + 1) hr (fun j b hj => by have := hb (j + 1) b (by simpa using hj); rw [show i + 1 + j = i + (j + 1) by omega]; exact this)
      obtain ⟨h1, h2⟩ := hb 0 b rfl
      simp only [Nat.add_zero] at h1 h2
      subst h
      simp only [dot, ile_eq]
      by_cases ha : 0 ≤ a
      · simp only [ha, decide_true, cond_true]
        have := Int.mul_le_mul_of_nonneg_left h1 ha
        omega
      · simp only [ha, decide_false, cond_false]
        have := Int.mul_le_mul_of_nonpos_left (show a ≤ 0 by omega) h2
        omega
variable {D : Dm} (hD : OkD D ρ)
include hD
theorem sure_ok {c : Int} {l : List Int} (h : sure D c l = true) : 0 ≤ c + dot ρ 0 l := by
  unfold sure at h
  split at h
  · rename_i r hr
    have := loL_ok (ρ := ρ) (i := 0) hr (fun j b hj => by rw [Nat.zero_add]; exact hD.bs j b hj)
    rw [ile_eq] at h
    have := of_decide_eq_true h
    omega
  · cases h
theorem sureF_ok {c : Int} {l : List Int} : ∀ {fs : List (Int × List Int)}, (∀ f ∈ fs, 0 ≤ f.1 + dot ρ 0 f.2) → sureF D c l fs = true → 0 ≤ c + dot ρ 0 l
  | [], _, h => by simp [sureF] at h
  | f :: fs, hf, h => by
    simp only [sureF] at h
    cases hs : sure D (c - f.1) (addL l (negL f.2)) with
    | true =>
      have := sure_ok hD hs
      rw [dot_add, dot_neg] at this
      have := hf f List.mem_cons_self
      omega
    | false => rw [hs] at h; exact sureF_ok (fun g hg => hf g (List.mem_cons_of_mem _ hg)) h
theorem ge0_ok {c : Int} {l : List Int} (h : ge0 D c l = true) : 0 ≤ c + dot ρ 0 l := by
  unfold ge0 at h
  cases hz : zeroL l with
  | true =>
    rw [hz, cond_true, ile_eq] at h
    rw [dot_zero 0 hz]; have := of_decide_eq_true h; omega
  | false =>
    rw [hz, cond_false] at h
    cases hs : sure D c l with
    | true => exact sure_ok hD hs
    | false => rw [hs, cond_false] at h; exact sureF_ok hD hD.fs h
theorem sign_ok {c : Int} {l : List Int} {b : Bool} (h : sign D c l = some b) : b = decide (0 ≤ c + dot ρ 0 l) := by
  unfold sign at h
  cases h1 : ge0 D c l with
  | true => rw [h1] at h; cases h; exact (decide_eq_true (ge0_ok hD h1)).symm
  | false =>
    rw [h1, cond_false] at h
    cases h2 : ge0 D (-1 - c) (negL l) with
    | true =>
      rw [h2] at h; cases h
      have := ge0_ok hD h2
      rw [dot_neg] at this
      exact (decide_eq_false (by omega)).symm
    | false => rw [h2] at h; cases h
theorem cle_ok {c d : Int} {l m : List Int} {b : Bool} (h : cle D c l d m = some b) : b = decide (c + dot ρ 0 l ≤ d + dot ρ 0 m) := by
  have := sign_ok hD h
  rw [dot_add, dot_neg] at this
  rw [this]; exact decide_eq_decide.2 (by omega)
theorem clt_ok {c d : Int} {l m : List Int} {b : Bool} (h : clt D c l d m = some b) : b = decide (c + dot ρ 0 l < d + dot ρ 0 m) := by
  have := sign_ok hD h
  rw [dot_add, dot_neg] at this
  rw [this]; exact decide_eq_decide.2 (by omega)
theorem ceq_ok {c d : Int} {l m : List Int} {b : Bool} (h : ceq D c l d m = some b) : b = decide (c + dot ρ 0 l = d + dot ρ 0 m) := by
  unfold ceq at h
  cases h0 : zeroL (addL m (negL l)) with
  | true =>
    rw [h0] at h
    simp only [cond_true, Option.some.injEq, ieq_eq] at h
    have := dot_zero (ρ := ρ) 0 h0
    rw [dot_add, dot_neg] at this
    rw [← h]; exact decide_eq_decide.2 (by omega)
  | false =>
    rw [h0, cond_false] at h
    cases h1 : ge0 D (d - c - 1) (addL m (negL l)) with
    | true =>
      rw [h1] at h; cases h
      have := ge0_ok hD h1
      rw [dot_add, dot_neg] at this
      exact (decide_eq_false (by omega)).symm
    | false =>
      rw [h1, cond_false] at h
      cases h2 : ge0 D (c - d - 1) (addL l (negL m)) with
      | true =>
        rw [h2] at h; cases h
        have := ge0_ok hD h2
        rw [dot_add, dot_neg] at this
        exact (decide_eq_false (by omega)).symm
      | false => rw [h2] at h; cases h
theorem fits_ok {k : IntKind} {c : Int} {l : List Int} (h : fits D k c l = true) : k.wrap (c + dot ρ 0 l) = c + dot ρ 0 l := by
  unfold fits at h
  cases h1 : ge0 D (c + .ofNat (kminN k)) l with
  | false => rw [h1] at h; cases h
  | true =>
    rw [h1, cond_true] at h
    have a := ge0_ok hD h1
    have b := ge0_ok hD h
    rw [dot_neg] at b
    simp only [Int.ofNat_eq_natCast] at a b
    exact wrap_fit (by omega) (by omega)
/-- A division that is sure. -/
def DivOk (ρ : Nat → Int) (x m : Int) (r : DR) : Prop := x = m * (r.q + dot ρ 0 r.ql) + (r.r + dot ρ 0 r.rl) ∧ 0 ≤ r.r + dot ρ 0 r.rl ∧ r.r + dot ρ 0 r.rl < m
theorem divQ_ok {m c q : Int} {l : List Int} {r : DR} (h : divQ D m c l q = some r) : DivOk ρ (c + dot ρ 0 l) m r := by
  unfold divQ at h
  cases h1 : ge0 D (c % m - m * q) (modL m l) with
  | false => rw [h1] at h; cases h
  | true =>
    rw [h1, cond_true] at h
    cases h2 : ge0 D (m - 1 - (c % m - m * q)) (negL (modL m l)) with
    | false => rw [h2] at h; cases h
    | true =>
      rw [h2] at h; cases h
      have a := ge0_ok hD h1
      have b := ge0_ok hD h2
      rw [dot_neg] at b
      refine ⟨?_, a, by simp only; omega⟩
      simp only [Int.mul_add]
      rw [dot_div m l 0]
      have := Int.mul_ediv_add_emod c m
      omega
theorem divD_ok {m c : Int} {l : List Int} {r : DR} (h : divD D m c l = some r) : DivOk ρ (c + dot ρ 0 l) m r := by
  unfold divD at h
  split at h
  · cases h
  · exact divQ_ok hD h
omit hD in
theorem mk_rel (k : IntKind) (c : Int) (l : List Int) (φ : Nat → Ph) (nx : Nat) : Rel ρ φ nx (mk k c l) (.int k (c + dot ρ 0 l)) := by
  unfold mk
  cases h : zeroL l with
  | true => rw [cond_true, dot_zero 0 h, Int.add_zero]; exact .n k c
  | false => exact .a k c l
omit hD in
theorem DivOk.ediv {x m : Int} {r : DR} (h : DivOk ρ x m r) : r.q + dot ρ 0 r.ql = x / m ∧ r.r + dot ρ 0 r.rl = x % m := by
  obtain ⟨h1, h2, h3⟩ := h
  have hm : 0 < m := by omega
  have e : x / m = r.q + dot ρ 0 r.ql := by
    rw [h1, Int.add_comm, Int.add_mul_ediv_left _ _ (by omega), Int.ediv_eq_zero_of_lt h2 h3]; omega
  have e2 := Int.mul_ediv_add_emod x m
  rw [e] at e2
  refine ⟨e.symm, by omega⟩
theorem wrapA_ok {k : IntKind} {c : Int} {l : List Int} {κ : MV → Bool} (h : wrapA D k c l κ = true) : ∃ v, (∀ φ nx, Rel ρ φ nx v (.int k (k.wrap (c + dot ρ 0 l)))) ∧ κ v = true := by
  unfold wrapA at h
  cases h1 : fits D k c l with
  | true =>
    rw [h1, cond_true] at h
    exact ⟨_, fun φ nx => by rw [fits_ok hD h1]; exact mk_rel k c l φ nx, h⟩
  | false =>
    rw [h1, cond_false] at h
    cases h2 : k.signed with
    | true => rw [h2] at h; cases h
    | false =>
      rw [h2, cond_false] at h
      split at h
      · rename_i r hr
        refine ⟨_, fun φ nx => ?_, h⟩
        have e := (divD_ok hD hr)
        have e2 := (DivOk.ediv e).2
        have : k.wrap (c + dot ρ 0 l) = r.r + dot ρ 0 r.rl := by
          rw [e2]
          cases k <;> first | (simp [IntKind.signed] at h2; done) | (simp [IntKind.wrap, IntKind.bits, IntKind.signed, kmaxN])
        rw [this]
        exact mk_rel k r.r r.rl φ nx
      · cases h
/-! ### Two whole numbers -/
def BinI (op : BinOp) (k : IntKind) (a b : Int) (r : Value) : Prop := stepBin op .other (fun r' => r' = r) (.int k a) (.int k b)
def BNok (op : BinOp) (kc : BN) : Prop := ∀ {k c d κ}, kc k c d κ = true → ∃ v r, BinI op k c d r ∧ (∀ (ρ : Nat → Int) φ nx, Rel ρ φ nx v r) ∧ κ v = true
def BAok (D : Dm) (ρ : Nat → Int) (op : BinOp) (kg : BA) : Prop := ∀ {k c l d m κ}, kg D k c l d m κ = true → ∃ v r, BinI op k (c + dot ρ 0 l) (d + dot ρ 0 m) r ∧ (∀ φ nx, Rel ρ φ nx v r) ∧ κ v = true
omit hD in
theorem nAdd_ok : BNok .add nAdd := fun h => ⟨_, _, ⟨rfl, rfl⟩, fun ρ φ nx => .n _ _, by have := wrapN_ok h; rw [iadd_eq] at this; exact this⟩
omit hD in
theorem nSub_ok : BNok .sub nSub := fun h => ⟨_, _, ⟨rfl, rfl⟩, fun ρ φ nx => .n _ _, by have := wrapN_ok h; rw [isub_eq] at this; exact this⟩
omit hD in
theorem nMul_ok : BNok .mul nMul := fun h => ⟨_, _, ⟨rfl, rfl⟩, fun ρ φ nx => .n _ _, by have := wrapN_ok h; rw [imul_eq] at this; exact this⟩
omit hD in
theorem nEql_ok : BNok .eql nEql := fun h => ⟨_, _, ⟨rfl, rfl⟩, fun ρ φ nx => .b _, by rw [← ieq_eq]; exact h⟩
omit hD in
theorem nNeq_ok : BNok .neq nNeq := fun h => ⟨_, _, ⟨rfl, rfl⟩, fun ρ φ nx => .b _, by rw [← ieq_eq]; exact h⟩
omit hD in
theorem nLss_ok : BNok .lss nLss := fun {k c d κ} h => ⟨_, _, ⟨rfl, rfl⟩, fun ρ φ nx => .b _, by
  have h : κ (.b (not (ile d c))) = true := h
  rw [ile_eq] at h
  rw [show decide (c < d) = !decide (d ≤ c) by rw [← decide_not]; exact decide_eq_decide.2 (by omega)]; exact h⟩
omit hD in
theorem nLeq_ok : BNok .leq nLeq := fun h => ⟨_, _, ⟨rfl, rfl⟩, fun ρ φ nx => .b _, by rw [← ile_eq]; exact h⟩
omit hD in
theorem nGtr_ok : BNok .gtr nGtr := fun {k c d κ} h => ⟨_, _, ⟨rfl, rfl⟩, fun ρ φ nx => .b _, by
  have h : κ (.b (not (ile c d))) = true := h
  rw [ile_eq] at h
  rw [show decide (d < c) = !decide (c ≤ d) by rw [← decide_not]; exact decide_eq_decide.2 (by omega)]; exact h⟩
omit hD in
theorem nGeq_ok : BNok .geq nGeq := fun h => ⟨_, _, ⟨rfl, rfl⟩, fun ρ φ nx => .b _, by rw [← ile_eq]; exact h⟩
omit hD in
theorem nAndNot_ok : BNok .andNot nAndNot := fun h => ⟨_, _, ⟨rfl, rfl⟩, fun ρ φ nx => .n _ _, h⟩
end
end Go.Proofs.YtnajikpdnccilaaGreat.Pv.M

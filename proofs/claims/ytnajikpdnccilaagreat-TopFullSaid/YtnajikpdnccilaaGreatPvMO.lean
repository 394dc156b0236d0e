/- Whole numbers over variables: each operation. -/
import Derived.Test.YtnajikpdnccilaaGreatPvMN
set_option linter.unusedVariables false
set_option linter.unusedSimpArgs false
namespace Go.Proofs.YtnajikpdnccilaaGreat.Pv.M
open Go
theorem kbits_eq (k : IntKind) : kbits k = k.bits := by cases k <;> rfl
theorem nQuo_ok : BNok .quo nQuo := fun {k c d κ} h => by
  have h : Bool.rec (motive := fun _ => Bool) _ false (ieq d 0) = true := h
  cases h0 : ieq d 0 with
  | true => rw [h0] at h; cases h
  | false =>
    rw [h0] at h
    rw [ieq_eq] at h0
    refine ⟨_, _, ⟨rfl, of_decide_eq_false h0, rfl⟩, fun ρ φ nx => .n _ _, ?_⟩
    cases c with
    | ofNat m => cases d with
      | ofNat n => exact wrapN_ok h
      | negSucc n => exact wrapN_ok h
    | negSucc m => exact wrapN_ok h
theorem nRem_ok : BNok .rem nRem := fun {k c d κ} h => by
  have h : Bool.rec (motive := fun _ => Bool) _ false (ieq d 0) = true := h
  cases h0 : ieq d 0 with
  | true => rw [h0] at h; cases h
  | false =>
    rw [h0] at h
    rw [ieq_eq] at h0
    refine ⟨_, _, ⟨rfl, of_decide_eq_false h0, rfl⟩, fun ρ φ nx => .n _ _, ?_⟩
    cases c with
    | ofNat m => cases d with
      | ofNat n => exact h
      | negSucc n => exact h
    | negSucc m => exact h
theorem kmax_lt (k : IntKind) : kmaxN k < 2 ^ k.bits := by cases k <;> decide
theorem bits_nat {k : IntKind} {m : Nat} (h : m ≤ kmaxN k) : (BitVec.ofInt k.bits (m : Int)).toNat = m := by
  have := kmax_lt k
  rw [BitVec.ofInt_natCast, BitVec.toNat_ofNat, Nat.mod_eq_of_lt (by omega)]
theorem nBits_ok {op : BinOp} {f : Nat → Nat → Nat} (hb : ∀ k c d, BinI op k c d (.int k (bitI op k c d))) (hf : ∀ (k : IntKind) (m n : Nat), m ≤ kmaxN k → n ≤ kmaxN k → f m n ≤ kmaxN k → bitI op k m n = k.wrap (f m n)) : BNok op (nBits op f) := fun {k c d κ} h => by
  refine ⟨_, _, hb k c d, fun ρ φ nx => .n _ _, ?_⟩
  cases c with
  | ofNat m => cases d with
    | ofNat n =>
      rcases ow_inv (show ow (Nat.ble m (kmaxN k)) _ _ = true from h) with ⟨h1, h⟩ | ⟨_, h⟩
      · rcases ow_inv h with ⟨h2, h⟩ | ⟨_, h⟩
        · rcases ow_inv h with ⟨h3, h⟩ | ⟨_, h⟩
          · have e1 := Nat.le_of_ble_eq_true h1
            have e2 := Nat.le_of_ble_eq_true h2
            have e3 := Nat.le_of_ble_eq_true h3
            have := hf k m n e1 e2 e3
            rw [show bitI op k (.ofNat m) (.ofNat n) = .ofNat (f m n) by
              rw [show Int.ofNat m = (m : Int) from rfl, show Int.ofNat n = (n : Int) from rfl, this, wrap_fit (by omega) (by omega)]; rfl]
            exact h
          · exact h
        · exact h
      · exact h
    | negSucc n => exact h
  | negSucc m => exact h
theorem nAnd_ok : BNok .and nAnd := nBits_ok (op := .and) (fun k c d => ⟨rfl, rfl⟩) fun k m n h1 h2 h3 => by
  simp only [bitI, BitVec.toNat_and, bits_nat h1, bits_nat h2]; rfl
theorem nOr_ok : BNok .or nOr := nBits_ok (op := .or) (fun k c d => ⟨rfl, rfl⟩) fun k m n h1 h2 h3 => by
  simp only [bitI, BitVec.toNat_or, bits_nat h1, bits_nat h2]; rfl
theorem nXor_ok : BNok .xor nXor := nBits_ok (op := .xor) (fun k c d => ⟨rfl, rfl⟩) fun k m n h1 h2 h3 => by
  simp only [bitI, BitVec.toNat_xor, bits_nat h1, bits_nat h2]; rfl
section
variable {ρ : Nat → Int} {D : Dm} (hD : OkD D ρ)
include hD
theorem aAdd_ok : BAok D ρ .add aAdd := fun {k c l d m κ} h => by
  obtain ⟨v, h1, h2⟩ := wrapA_ok hD h
  rw [dot_add] at h1
  exact ⟨v, _, ⟨rfl, rfl⟩, fun φ nx => by have := h1 φ nx; rw [show c + dot ρ 0 l + (d + dot ρ 0 m) = c + d + (dot ρ 0 l + dot ρ 0 m) by omega]; exact this, h2⟩
theorem aSub_ok : BAok D ρ .sub aSub := fun {k c l d m κ} h => by
  obtain ⟨v, h1, h2⟩ := wrapA_ok hD h
  rw [dot_add, dot_neg] at h1
  exact ⟨v, _, ⟨rfl, rfl⟩, fun φ nx => by have := h1 φ nx; rw [show c + dot ρ 0 l - (d + dot ρ 0 m) = c - d + (dot ρ 0 l + -dot ρ 0 m) by omega]; exact this, h2⟩
theorem aMul_ok : BAok D ρ .mul aMul := fun {k c l d m κ} h => by
  have h : cond (zeroL m) (wrapA D k (c * d) (mulL d l) κ) (cond (zeroL l) (wrapA D k (c * d) (mulL c m) κ) false) = true := h
  cases h0 : zeroL m with
  | true =>
    rw [h0, cond_true] at h
    obtain ⟨v, h1, h2⟩ := wrapA_ok hD h
    rw [dot_mul] at h1
    exact ⟨v, _, ⟨rfl, rfl⟩, fun φ nx => by have := h1 φ nx; rw [dot_zero 0 h0, Int.add_zero, Int.add_mul, Int.mul_comm (dot ρ 0 l) d]; exact this, h2⟩
  | false =>
    rw [h0, cond_false] at h
    cases h1 : zeroL l with
    | false => rw [h1] at h; cases h
    | true =>
      rw [h1, cond_true] at h
      obtain ⟨v, g1, g2⟩ := wrapA_ok hD h
      rw [dot_mul] at g1
      exact ⟨v, _, ⟨rfl, rfl⟩, fun φ nx => by have := g1 φ nx; rw [dot_zero 0 h1, Int.add_zero, Int.mul_add]; exact this, g2⟩
omit hD in
theorem goes_ok (hD : OkD D ρ) {c d : Int} {l m : List Int} : ∀ {f q r : Nat}, goes D c l d m f q = some r → 0 ≤ c + dot ρ 0 l - r * (d + dot ρ 0 m) ∧ c + dot ρ 0 l - r * (d + dot ρ 0 m) < d + dot ρ 0 m
  | 0, q, r, h => by simp [goes] at h
  | f + 1, q, r, h => by
    simp only [goes] at h
    cases h1 : ge0 D (c - q * d) (addL l (mulL (-(q : Int)) m)) with
    | false => rw [h1] at h; cases h
    | true =>
      rw [h1, cond_true] at h
      cases h2 : ge0 D (q * d + d - c - 1) (addL (mulL (q + 1) m) (negL l)) with
      | false => rw [h2, cond_false] at h; exact goes_ok hD h
      | true =>
        rw [h2] at h; cases h
        have a := ge0_ok hD h1
        have b := ge0_ok hD h2
        rw [dot_add, dot_mul] at a b
        rw [dot_neg] at b
        rw [Int.mul_add]
        rw [Int.neg_mul] at a
        rw [Int.add_mul, Int.one_mul] at b
        omega
/-- A quotient, and what is left. -/
theorem quoA_ok {c d : Int} {l m : List Int} {r : DR} (h : quoA D c l d m = some r) : DivOk ρ (c + dot ρ 0 l) (d + dot ρ 0 m) r ∧ 0 < d + dot ρ 0 m ∧ 0 ≤ c + dot ρ 0 l := by
  unfold quoA at h
  cases h0 : zeroL m with
  | true =>
    rw [h0, cond_true] at h
    cases h1 : (ile 1 d && ge0 D c l) with
    | false => rw [h1] at h; cases h
    | true =>
      rw [h1, cond_true] at h
      rw [Bool.and_eq_true, ile_eq] at h1
      rw [dot_zero 0 h0, Int.add_zero]
      have := of_decide_eq_true h1.1
      exact ⟨divD_ok hD h, by omega, ge0_ok hD h1.2⟩
  | false =>
    rw [h0, cond_false] at h
    cases h1 : ge0 D (d - 1) m with
    | false => rw [h1] at h; cases h
    | true =>
      rw [h1, cond_true] at h
      have hp := ge0_ok hD h1
      split at h
      · rename_i q hq
        cases h
        obtain ⟨a, b⟩ := goes_ok hD hq
        have hq0 : 0 ≤ (q : Int) * (d + dot ρ 0 m) := Int.mul_nonneg (by omega) (by omega)
        refine ⟨⟨?_, ?_, ?_⟩, by omega, by omega⟩
        · simp only [dot_add, dot_mul, dot, Int.add_zero, Int.neg_mul]
          rw [Int.mul_comm (d + dot ρ 0 m) (q : Int), Int.mul_add]; omega
        · simp only [dot_add, dot_mul, Int.neg_mul]
          rw [Int.mul_add] at a; omega
        · simp only [dot_add, dot_mul, Int.neg_mul]
          rw [Int.mul_add] at b; omega
      · cases h
theorem aQuo_ok : BAok D ρ .quo aQuo := fun {k c l d m κ} h => by
  have h : (match quoA D c l d m with | some r => wrapA D k r.q r.ql κ | none => false) = true := h
  split at h
  · rename_i r hr
    obtain ⟨h1, h2, h3⟩ := quoA_ok hD hr
    obtain ⟨v, g1, g2⟩ := wrapA_ok hD h
    have e := (DivOk.ediv h1).1
    rw [e] at g1
    exact ⟨v, _, ⟨rfl, by omega, rfl⟩, fun φ nx => by rw [Int.tdiv_eq_ediv_of_nonneg h3]; exact g1 φ nx, g2⟩
  · cases h
theorem aRem_ok : BAok D ρ .rem aRem := fun {k c l d m κ} h => by
  have h : (match quoA D c l d m with | some r => κ (mk k r.r r.rl) | none => (match quoA D (-c) (negL l) d m with | some r => κ (mk k (-r.r) (negL r.rl)) | none => false)) = true := h
  split at h
  · rename_i r hr
    obtain ⟨h1, h2, h3⟩ := quoA_ok hD hr
    have e := (DivOk.ediv h1).2
    exact ⟨_, _, ⟨rfl, by omega, rfl⟩, fun φ nx => by rw [Int.tmod_eq_emod_of_nonneg h3, ← e]; exact mk_rel k r.r r.rl φ nx, h⟩
  · split at h
    · rename_i r hr
      obtain ⟨h1, h2, h3⟩ := quoA_ok hD hr
      have e := (DivOk.ediv h1).2
      have ex : -c + dot ρ 0 (negL l) = -(c + dot ρ 0 l) := by rw [dot_neg]; omega
      rw [ex] at e h3
      have e2 : (c + dot ρ 0 l).tmod (d + dot ρ 0 m) = -r.r + dot ρ 0 (negL r.rl) := by
        rw [show c + dot ρ 0 l = -(-(c + dot ρ 0 l)) from by omega, Int.neg_tmod, Int.tmod_eq_emod_of_nonneg h3, ← e, dot_neg]; omega
      exact ⟨_, _, ⟨rfl, by omega, rfl⟩, fun φ nx => by rw [e2]; exact mk_rel k (-r.r) (negL r.rl) φ nx, h⟩
    · cases h
omit hD in
theorem aCmp_ok (hD : OkD D ρ) {op : BinOp} {f : Dm → Int → List Int → Int → List Int → Option Bool} {g : Int → Int → Bool} (hf : ∀ {c l d m b}, f D c l d m = some b → b = g (c + dot ρ 0 l) (d + dot ρ 0 m)) (hg : ∀ k a b, BinI op k a b (.bool (g a b))) : BAok D ρ op (aCmp f) := fun {k c l d m κ} h => by
  obtain ⟨b, h1, h2⟩ := ob_inv (show ob (f D c l d m) _ = true from h)
  exact ⟨_, _, hg k _ _, fun φ nx => .b _, by rw [← hf h1]; exact h2⟩
theorem aEql_ok : BAok D ρ .eql aEql := aCmp_ok hD (op := .eql) (g := fun a b => decide (a = b)) (ceq_ok hD) fun k a b => ⟨rfl, rfl⟩
theorem aNeq_ok : BAok D ρ .neq aNeq := aCmp_ok hD (op := .neq) (g := fun a b => !decide (a = b)) (fun h => by
  obtain ⟨b, h1, h2⟩ := Option.map_eq_some_iff.1 h
  rw [← h2, ceq_ok hD h1]) fun k a b => ⟨rfl, rfl⟩
theorem aLss_ok : BAok D ρ .lss aLss := aCmp_ok hD (op := .lss) (g := fun a b => decide (a < b)) (clt_ok hD) fun k a b => ⟨rfl, rfl⟩
theorem aLeq_ok : BAok D ρ .leq aLeq := aCmp_ok hD (op := .leq) (g := fun a b => decide (a ≤ b)) (cle_ok hD) fun k a b => ⟨rfl, rfl⟩
theorem aGtr_ok : BAok D ρ .gtr aGtr := aCmp_ok hD (op := .gtr) (g := fun a b => decide (b < a)) (clt_ok hD) fun k a b => ⟨rfl, rfl⟩
theorem aGeq_ok : BAok D ρ .geq aGeq := aCmp_ok hD (op := .geq) (g := fun a b => decide (b ≤ a)) (cle_ok hD) fun k a b => ⟨rfl, rfl⟩
omit hD in
theorem aNo_ok {op : BinOp} : BAok D ρ op aNo := fun h => absurd h (by simp [aNo])
theorem aAnd_ok : BAok D ρ .and aAnd := fun {k c l d m κ} h => by
  have h : cond (zeroL m) _ false = true := h
  cases h0 : zeroL m with
  | false => rw [h0] at h; cases h
  | true =>
    rw [h0, cond_true] at h
    cases d with
    | negSucc n => cases h
    | ofNat n =>
      have h : cond (isMask n && Nat.ble n (kmaxN k)) (match divD D (.ofNat (n + 1)) c l with | some r => κ (mk k r.r r.rl) | none => false) false = true := h
      cases h1 : (isMask n && Nat.ble n (kmaxN k)) with
      | false => rw [h1] at h; cases h
      | true =>
        rw [h1, cond_true] at h
        rw [Bool.and_eq_true] at h1
        split at h
        · rename_i r hr
          have e := (DivOk.ediv (divD_ok hD hr)).2
          have hn := Nat.le_of_ble_eq_true h1.2
          have hm : n + 1 = 2 ^ Nat.log2 (n + 1) := Nat.eq_of_beq_eq_true h1.1
          have hk := kmax_lt k
          refine ⟨_, _, ⟨rfl, rfl⟩, fun φ nx => ?_, h⟩
          have : bitI .and k (c + dot ρ 0 l) (Int.ofNat n + dot ρ 0 m) = r.r + dot ρ 0 r.rl := by
            rw [e, dot_zero 0 h0, Int.add_zero]
            generalize c + dot ρ 0 l = x
            generalize hj : Nat.log2 (n + 1) = j at hm
            have hjw : j ≤ k.bits := by
              rcases Nat.lt_or_ge k.bits j with hlt | hge
              · have := Nat.pow_lt_pow_right (show 1 < 2 by omega) hlt
                omega
              · exact hge
            have hn' : n = 2 ^ j - 1 := by omega
            simp only [bitI, BitVec.toNat_and]
            rw [show (BitVec.ofInt k.bits (Int.ofNat n)).toNat = n from bits_nat hn]
            have e2 : (BitVec.ofInt k.bits x).toNat &&& n = (x % (n + 1 : Nat)).toNat := by
              rw [hn', Nat.and_two_pow_sub_one_eq_mod, BitVec.toNat_ofInt]
              rw [show 2 ^ j - 1 + 1 = 2 ^ j by have := Nat.one_le_two_pow (n := j); omega]
              have hd : (2 ^ j : Nat) ∣ 2 ^ k.bits := Nat.pow_dvd_pow 2 hjw
              have hpos : (0 : Int) < ((2 ^ k.bits : Nat) : Int) := by have := Nat.one_le_two_pow (n := k.bits); omega
              have hpos2 : (0 : Int) < ((2 ^ j : Nat) : Int) := by have := Nat.one_le_two_pow (n := j); omega
              have a1 := Int.emod_nonneg x (show ((2 ^ k.bits : Nat) : Int) ≠ 0 by omega)
              have a2 := Int.emod_nonneg x (show ((2 ^ j : Nat) : Int) ≠ 0 by omega)
              apply Int.ofNat_inj.1
              rw [Int.natCast_emod, Int.toNat_of_nonneg a1, Int.toNat_of_nonneg a2]
              exact Int.emod_emod_of_dvd x (Int.natCast_dvd_natCast.2 hd)
            rw [e2]
            have b1 := Int.emod_nonneg x (show ((n + 1 : Nat) : Int) ≠ 0 by omega)
            have b2 := Int.emod_lt_of_pos x (show (0 : Int) < ((n + 1 : Nat) : Int) by omega)
            rw [Int.toNat_of_nonneg b1, wrap_fit (by omega) (by omega)]
            rfl
          rw [this]
          exact mk_rel k r.r r.rl φ nx
        · cases h
omit hD in
theorem bitI_or_comm (k : IntKind) (x y : Int) : bitI .or k x y = bitI .or k y x := by simp only [bitI]; rw [BitVec.or_comm]
theorem orA_ok {k : IntKind} {c d : Int} {l m : List Int} {κ : MV → Bool} {e : Bool} (h : orA D k c l d m κ e = true) :
    (∃ v, (∀ φ nx, Rel ρ φ nx v (.int k (bitI .or k (c + dot ρ 0 l) (d + dot ρ 0 m)))) ∧ κ v = true) ∨ e = true := by
  unfold orA at h
  split at h
  · rename_i r hr
    cases h1 : (zeroL r.rl && (ieq r.r 0 && (ge0 D d m && (ge0 D (255 - d) (negL m) && (ge0 D c l && (fits D k c l && ge0 D (.ofNat (kmaxN k) - 255) [])))))) with
    | false => rw [h1] at h; exact .inr h
    | true =>
      rw [h1, cond_true] at h
      simp only [Bool.and_eq_true] at h1
      obtain ⟨a1, a2, a3, a4, a5, a6, a7⟩ := h1
      obtain ⟨v, g1, g2⟩ := wrapA_ok hD h
      rw [dot_add] at g1
      refine .inl ⟨v, fun φ nx => ?_, g2⟩
      have e := (DivOk.ediv (divD_ok hD hr)).2
      rw [ieq_eq] at a2
      rw [of_decide_eq_true a2, dot_zero 0 a1] at e
      have b3 := ge0_ok hD a3
      have b4 := ge0_ok hD a4
      have b5 := ge0_ok hD a5
      have b6 := fits_ok hD a6
      have b7 := ge0_ok hD a7
      rw [dot_neg] at b4
      have := g1 φ nx
      rw [show c + d + (dot ρ 0 l + dot ρ 0 m) = (c + dot ρ 0 l) + (d + dot ρ 0 m) by omega] at this
      generalize hx : c + dot ρ 0 l = x at *
      generalize hy : d + dot ρ 0 m = y at *
      have hfit : x ≤ (kmaxN k : Int) := by
        unfold fits at a6
        cases q1 : ge0 D (c + .ofNat (kminN k)) l with
        | false => rw [q1] at a6; cases a6
        | true =>
          rw [q1, cond_true] at a6
          have := ge0_ok hD a6
          rw [dot_neg] at this
          simp only [Int.ofNat_eq_natCast] at this
          omega
      obtain ⟨X, rfl⟩ := Int.eq_ofNat_of_zero_le b5
      obtain ⟨Y, rfl⟩ := Int.eq_ofNat_of_zero_le b3
      have hor : X ||| Y = X + Y := by
        have hX : X = 2 ^ 8 * (X / 256) := by omega
        rw [hX, ← Nat.two_pow_add_eq_or_of_lt (show Y < 2 ^ 8 by omega)]
      have hb : bitI .or k (X : Int) (Y : Int) = k.wrap ((X : Int) + Y) := by
        simp only [bitI, BitVec.toNat_or]
        rw [bits_nat (show X ≤ kmaxN k by omega), bits_nat (show Y ≤ kmaxN k by simp only [dot, Int.ofNat_eq_natCast] at b7; omega), hor]
        rfl
      rw [hb]; exact this
  · exact .inr h
theorem aOr_ok : BAok D ρ .or aOr := fun {k c l d m κ} h => by
  rcases orA_ok hD (show orA D k c l d m κ (orA D k d m c l κ false) = true from h) with ⟨v, h1, h2⟩ | h
  · exact ⟨v, _, ⟨rfl, rfl⟩, h1, h2⟩
  · rcases orA_ok hD h with ⟨v, h1, h2⟩ | h
    · exact ⟨v, _, ⟨rfl, rfl⟩, fun φ nx => by rw [bitI_or_comm]; exact h1 φ nx, h2⟩
    · cases h
omit hD in
/-- Two whole numbers, or something else. -/
theorem on2_ok {op : BinOp} {kc : BN} {kg : BA} {κ : MV → Bool} {e : Bool} {a b : MV} (hc : BNok op kc) (hg : BAok D ρ op kg) (h : on2 D kc kg κ e a b = true) :
    (∃ k x y v r, (∀ φ nx va vb, Rel ρ φ nx a va → Rel ρ φ nx b vb → va = .int k x ∧ vb = .int k y) ∧ BinI op k x y r ∧ (∀ φ nx, Rel ρ φ nx v r) ∧ κ v = true) ∨ e = true := by
  have iN : ∀ {k c φ nx v}, Rel ρ φ nx (.n k c) v → v = .int k c := fun h => by cases h; rfl
  have iA : ∀ {k c l φ nx v}, Rel ρ φ nx (.a k c l) v → v = .int k (c + dot ρ 0 l) := fun h => by cases h; rfl
  have z : ∀ c : Int, c + dot ρ 0 [] = c := fun c => by simp [dot]
  rcases onI_inv (show onI a _ _ e = true from h) with ⟨i, c, rfl, h⟩ | ⟨i, c, l, rfl, h⟩ | ⟨_, _, h⟩
  · rcases onI_inv (show onI b _ _ false = true from h) with ⟨j, d, rfl, h⟩ | ⟨j, d, m, rfl, h⟩ | ⟨_, _, h⟩
    · obtain ⟨h1, h2⟩ := oc_inv h
      cases keq_inv h1
      obtain ⟨v, r, g1, g2, g3⟩ := hc h2
      exact .inl ⟨i, c, d, v, r, fun φ nx va vb ha hb => ⟨iN ha, iN hb⟩, g1, g2 ρ, g3⟩
    · obtain ⟨h1, h2⟩ := oc_inv h
      cases keq_inv h1
      obtain ⟨v, r, g1, g2, g3⟩ := hg h2
      rw [z] at g1
      exact .inl ⟨i, c, _, v, r, fun φ nx va vb ha hb => ⟨iN ha, iA hb⟩, g1, g2, g3⟩
    · cases h
  · rcases onI_inv (show onI b _ _ false = true from h) with ⟨j, d, rfl, h⟩ | ⟨j, d, m, rfl, h⟩ | ⟨_, _, h⟩
    · obtain ⟨h1, h2⟩ := oc_inv h
      cases keq_inv h1
      obtain ⟨v, r, g1, g2, g3⟩ := hg h2
      rw [z] at g1
      exact .inl ⟨i, _, d, v, r, fun φ nx va vb ha hb => ⟨iA ha, iN hb⟩, g1, g2, g3⟩
    · obtain ⟨h1, h2⟩ := oc_inv h
      cases keq_inv h1
      obtain ⟨v, r, g1, g2, g3⟩ := hg h2
      exact .inl ⟨i, _, _, v, r, fun φ nx va vb ha hb => ⟨iA ha, iA hb⟩, g1, g2, g3⟩
    · cases h
  · exact .inr h
omit hD in
/-- Shifts. -/
theorem shN_ok {left : Bool} {k k' : IntKind} {c : Int} {n : Nat} {κ : MV → Bool} (h : shN left k c n κ = true) :
    ∃ v r, stepBin (if left then .shl else .shr) .other (fun r' => r' = r) (.int k c) (.int k' (.ofNat n)) ∧ (∀ φ nx, Rel ρ φ nx v r) ∧ κ v = true := by
  have hmin : Nat.min n (kbits k) = min (Int.ofNat n).toNat k.bits := by rw [kbits_eq]; rfl
  cases left with
  | true =>
    have h : wrapN k (imul c (.ofNat (Nat.pow 2 (Nat.min n (kbits k))))) κ = true := h
    have := wrapN_ok h
    refine ⟨_, _, ⟨Int.natCast_nonneg n, rfl⟩, fun φ nx => .n _ _, ?_⟩
    rw [imul_eq, hmin] at this
    rw [show (2 : Int) ^ min (Int.ofNat n).toNat k.bits = Int.ofNat (Nat.pow 2 (min (Int.ofNat n).toNat k.bits)) by simp [Int.natCast_pow]]
    exact this
  | false =>
    refine ⟨_, _, ⟨Int.natCast_nonneg n, rfl⟩, fun φ nx => .n _ _, ?_⟩
    cases c with
    | ofNat m =>
      have h : κ (.n k (.ofNat (Nat.shiftRight m (Nat.min n (kbits k))))) = true := h
      rw [hmin] at h
      rw [show (Int.ofNat m).fdiv (2 ^ min (Int.ofNat n).toNat k.bits) = Int.ofNat (Nat.shiftRight m (min (Int.ofNat n).toNat k.bits)) by
        rw [show (2 : Int) ^ min (Int.ofNat n).toNat k.bits = ((2 ^ min (Int.ofNat n).toNat k.bits : Nat) : Int) by simp [Int.natCast_pow]]
        rw [Int.fdiv_eq_ediv_of_nonneg _ (Int.natCast_nonneg _)]
        show ((m : Int) / _) = ((Nat.shiftRight m _ : Nat) : Int)
        rw [← Int.natCast_ediv]
        congr 1
        exact (Nat.shiftRight_eq_div_pow m _).symm]
      exact h
    | negSucc m =>
      have h : κ (.n k ((Int.negSucc m).fdiv (2 ^ Nat.min n (kbits k)))) = true := h
      rw [hmin] at h
      exact h
theorem shA_ok {left : Bool} {k k' : IntKind} {c : Int} {l : List Int} {n : Nat} {κ : MV → Bool} (h : shA D left k c l n κ = true) :
    ∃ v r, stepBin (if left then .shl else .shr) .other (fun r' => r' = r) (.int k (c + dot ρ 0 l)) (.int k' (.ofNat n)) ∧ (∀ φ nx, Rel ρ φ nx v r) ∧ κ v = true := by
  have hmin : Nat.min n (kbits k) = min (Int.ofNat n).toNat k.bits := by rw [kbits_eq]; rfl
  have h2 : (2 : Int) ^ min (Int.ofNat n).toNat k.bits = Int.ofNat (2 ^ min (Int.ofNat n).toNat k.bits) := by simp [Int.natCast_pow]
  unfold shA at h
  rw [hmin] at h
  cases left with
  | true =>
    rw [cond_true] at h
    obtain ⟨v, g1, g2⟩ := wrapA_ok hD h
    rw [dot_mul] at g1
    refine ⟨v, _, ⟨Int.natCast_nonneg n, rfl⟩, fun φ nx => ?_, g2⟩
    rw [h2, Int.add_mul, Int.mul_comm (dot ρ 0 l)]; exact g1 φ nx
  | false =>
    rw [cond_false] at h
    split at h
    · rename_i r hr
      have e := (DivOk.ediv (divD_ok hD hr)).1
      refine ⟨_, _, ⟨Int.natCast_nonneg n, rfl⟩, fun φ nx => ?_, h⟩
      rw [h2, Int.fdiv_eq_ediv_of_nonneg _ (show (0 : Int) ≤ Int.ofNat _ from Int.natCast_nonneg _), ← e]
      exact mk_rel k r.q r.ql φ nx
    · cases h
end
end Go.Proofs.YtnajikpdnccilaaGreat.Pv.M

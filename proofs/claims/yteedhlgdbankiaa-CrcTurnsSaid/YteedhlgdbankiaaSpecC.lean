/- Sums of rows in which some bits, side by side, are turned. -/
import Derived.Test.YteedhlgdbankiaaSpecM
namespace Go.Proofs.Yteedhlgdbankiaa
open Go Go.Proofs.Yteedhlgdbankiaa.Pv

theorem u16_xor_zero {a b : UInt16} (h : a ^^^ b = 0) : a = b := by
  have h2 := congrArg UInt16.toBitVec h
  apply UInt16.toBitVec_inj.1
  apply BitVec.eq_of_getLsbD_eq
  intro i hi
  have h3 := congrArg (fun z => BitVec.getLsbD z i) h2
  simp only [UInt16.toBitVec_xor, BitVec.getLsbD_xor] at h3
  have h4 : BitVec.getLsbD (UInt16.toBitVec 0) i = false := by simp
  rw [h4] at h3
  revert h3
  cases a.toBitVec.getLsbD i <;> cases b.toBitVec.getLsbD i <;> simp
theorem shr1 (a : UInt16) : (a >>> UInt16.ofNat 1).toNat = a.toNat / 2 := by
  rw [UInt16.toNat_shiftRight]
  exact Nat.shiftRight_eq_div_pow _ 1
theorem and1 (a : UInt16) : (a &&& 1).toNat = a.toNat % 2 := by
  rw [UInt16.toNat_and]; exact Nat.and_one_is_mod _
theorem crcBit_zero {a : UInt16} (h : crcBit a = 0) : a = 0 := by
  have hl := a.toNat_lt
  unfold crcBit at h
  split at h
  · have h2 := congrArg UInt16.toNat (u16_xor_zero h)
    rw [shr1] at h2
    have : (0xA001 : UInt16).toNat = 40961 := rfl
    omega
  · rename_i h1
    have h2 := congrArg UInt16.toNat h
    rw [shr1] at h2
    have h3 := congrArg UInt16.toNat ((and_one a).resolve_right h1)
    rw [and1] at h3
    have z : (0 : UInt16).toNat = 0 := rfl
    apply UInt16.toNat_inj.1
    omega
theorem crcBit_0 : crcBit 0 = 0 := by decide
theorem times_0 (n : Nat) : times crcBit n 0 = 0 := by
  induction n with
  | zero => rfl
  | succ n ih => simp only [times]; rw [ih, crcBit_0]
theorem times_zero {n : Nat} {a : UInt16} (h : times crcBit n a = 0) : a = 0 := by
  induction n with
  | zero => exact h
  | succ n ih => exact ih (crcBit_zero h)
theorem times_in (n : Nat) (a : UInt16) : times crcBit (n + 1) a = times crcBit n (crcBit a) := by
  induction n with
  | zero => rfl
  | succ n ih => rw [times, ih]; rfl
theorem times_add (n m : Nat) (a : UInt16) : times crcBit (n + m) a = times crcBit m (times crcBit n a) := by
  induction m with
  | zero => rfl
  | succ m ih => rw [← Nat.add_assoc, times, ih]; rfl
def b1 (b : Bool) : UInt16 := if b = true then 1 else 0
theorem b1_xor (a b : Bool) : b1 (a ^^ b) = b1 a ^^^ b1 b := by cases a <;> cases b <;> rfl
/-- Bits, one by one. -/
def crcF (f : Nat → Bool) : List Nat → UInt16 → UInt16
  | [], s => s
  | p :: t, s => crcF f t (crcBit (s ^^^ b1 (f p)))
theorem crcF_xor (f g : Nat → Bool) : ∀ (L : List Nat) (a b : UInt16), crcF (fun p => f p ^^ g p) L (a ^^^ b) = crcF f L a ^^^ crcF g L b
  | [], a, b => rfl
  | p :: t, a, b => by
    simp only [crcF]
    rw [b1_xor, xor4, crcBit_xor]
    exact crcF_xor f g t _ _
theorem crcF_app (f : Nat → Bool) : ∀ (L M : List Nat) (s : UInt16), crcF f (L ++ M) s = crcF f M (crcF f L s)
  | [], M, s => rfl
  | p :: t, M, s => by simp only [List.cons_append, crcF]; exact crcF_app f t M _
theorem crcF_congr {f g : Nat → Bool} : ∀ {L : List Nat} (_ : ∀ p ∈ L, f p = g p) (s : UInt16), crcF f L s = crcF g L s
  | [], h, s => rfl
  | p :: t, h, s => by
    simp only [crcF]
    rw [h p (by simp)]
    exact crcF_congr (fun q hq => h q (by simp [hq])) _
theorem crcF_none {f : Nat → Bool} : ∀ {L : List Nat} (_ : ∀ p ∈ L, f p = false) (s : UInt16), crcF f L s = times crcBit L.length s
  | [], h, s => rfl
  | p :: t, h, s => by
    simp only [crcF, List.length_cons]
    rw [h p (by simp), times_in, crcF_none (fun q hq => h q (by simp [hq]))]
    simp [b1]
theorem crcF_map (f : Nat → Bool) (k : Nat) : ∀ (L : List Nat) (s : UInt16), crcF f (L.map (k + ·)) s = crcF (fun p => f (k + p)) L s
  | [], s => rfl
  | p :: t, s => by simp only [List.map_cons, crcF]; exact crcF_map f k t _
/-- What some bits are together. -/
def valF (f : Nat → Bool) : List Nat → UInt16
  | [] => 0
  | p :: t => b1 (f p) ^^^ (valF f t <<< UInt16.ofNat 1)
theorem shl1 {v : UInt16} (h : v.toNat < 32768) : (v <<< UInt16.ofNat 1).toNat = 2 * v.toNat := by
  rw [UInt16.toNat_shiftLeft]
  have e : (UInt16.ofNat 1).toNat % 16 = 1 := rfl
  rw [e, Nat.shiftLeft_eq]
  omega
theorem xor_even (b : Bool) {v : UInt16} (h : v.toNat % 2 = 0) : (b1 b ^^^ v).toNat = (if b then 1 else 0) + v.toNat := by
  rw [UInt16.toNat_xor]
  cases b
  · simp [b1]
  · have e : (b1 true).toNat = 1 := rfl
    rw [e]
    have h1 : v.toNat = 2 * (v.toNat / 2) := by omega
    have h2 := Nat.two_pow_add_eq_or_of_lt (i := 1) (b := 1) (by decide) (v.toNat / 2)
    have h3 : 1 ^^^ v.toNat = 1 + v.toNat := by
      apply Nat.eq_of_testBit_eq
      intro i
      rw [Nat.testBit_xor]
      cases i with
      | zero =>
        have : (1 + v.toNat) % 2 = 1 := by omega
        rw [Nat.testBit_zero, Nat.testBit_zero, Nat.testBit_zero, this, h]; rfl
      | succ i =>
        have : (1 + v.toNat) / 2 = v.toNat / 2 := by omega
        rw [Nat.testBit_succ, Nat.testBit_succ, Nat.testBit_succ, this]; simp
    rw [h3]; simp
theorem valF_lt (f : Nat → Bool) : ∀ (L : List Nat), L.length ≤ 16 → (valF f L).toNat < 2 ^ L.length
  | [], _ => by simp [valF]
  | p :: t, h => by
    have h1 : t.length + 1 ≤ 16 := by simpa using h
    have h2 := valF_lt f t (by omega)
    have h3 : 2 ^ t.length ≤ 2 ^ 15 := Nat.pow_le_pow_right (by decide) (by omega)
    have h4 := shl1 (v := valF f t) (by omega)
    simp only [valF, List.length_cons]
    rw [xor_even _ (by omega), h4, Nat.pow_succ]
    split <;> omega
theorem crcBit_shl {v : UInt16} (h : v.toNat < 32768) : crcBit (v <<< UInt16.ofNat 1) = v := by
  have h4 := shl1 h
  have e : ¬ (v <<< UInt16.ofNat 1) &&& 1 = 1 := by
    intro e
    have h5 := congrArg UInt16.toNat e
    rw [and1, h4] at h5
    have : (1 : UInt16).toNat = 1 := rfl
    omega
  unfold crcBit
  rw [if_neg e]
  apply UInt16.toNat_inj.1
  rw [shr1, h4]; omega
theorem crcF_val (f : Nat → Bool) : ∀ (L : List Nat), L.length ≤ 16 → crcF f L 0 = times crcBit L.length (valF f L)
  | [], _ => rfl
  | p :: t, h => by
    have h1 : t.length + 1 ≤ 16 := by simpa using h
    have h2 := valF_lt f t (by omega)
    have h3 : 2 ^ t.length ≤ 2 ^ 15 := Nat.pow_le_pow_right (by decide) (by omega)
    have e1 : crcF f t (crcBit (0 ^^^ b1 (f p))) = times crcBit t.length (crcBit (b1 (f p))) ^^^ crcF f t 0 := by
      have := crcF_xor (fun _ => false) f t (crcBit (b1 (f p))) 0
      simp only [Bool.false_xor] at this
      rw [UInt16.xor_zero] at this
      rw [UInt16.zero_xor, this, crcF_none (fun _ _ => rfl)]
    simp only [crcF, List.length_cons, valF]
    rw [e1, crcF_val f t (by omega), times_in, crcBit_xor, crcBit_shl (by omega), times_xor]
theorem valF_zero (f : Nat → Bool) : ∀ (L : List Nat), L.length ≤ 16 → valF f L = 0 → ∀ p ∈ L, f p = false
  | [], _, _, p, hp => by cases hp
  | q :: t, h, hz, p, hp => by
    have h1 : t.length + 1 ≤ 16 := by simpa using h
    have h2 := valF_lt f t (by omega)
    have h3 : 2 ^ t.length ≤ 2 ^ 15 := Nat.pow_le_pow_right (by decide) (by omega)
    have h4 := shl1 (v := valF f t) (by omega)
    have h5 := congrArg UInt16.toNat hz
    simp only [valF] at h5
    rw [xor_even _ (by omega), h4] at h5
    have z : (0 : UInt16).toNat = 0 := rfl
    rw [z] at h5
    have h6 : f q = false := by
      cases hq : f q with
      | false => rfl
      | true => rw [hq] at h5; simp at h5
    have h7 : valF f t = 0 := by
      apply UInt16.toNat_inj.1
      rw [z]; split at h5 <;> omega
    rcases List.mem_cons.1 hp with e | e
    · subst e; exact h6
    · exact valF_zero f t (by omega) h7 p e
/-! ### Bits of a row -/
def bitAt (l : List UInt8) (p : Nat) : Bool := (l.getD (p / 8) 0).toNat.testBit (p % 8)
theorem crcByte_bits (s : UInt16) (c : UInt8) : crcByte s c = crcF (fun j => c.toNat.testBit j) (List.range 8) s := by
  have h0 : ∀ n : Fin 256, times crcBit 8 ((UInt8.ofNat n.val).toUInt16) = crcF (fun j => (UInt8.ofNat n.val).toNat.testBit j) (List.range 8) 0 := by decide +kernel
  have h1 := h0 ⟨c.toNat, c.toNat_lt⟩
  simp only [UInt8.ofNat_toNat] at h1
  unfold crcByte
  rw [times_xor, h1]
  have := crcF_xor (fun _ => false) (fun j => c.toNat.testBit j) (List.range 8) s 0
  simp only [Bool.false_xor] at this
  rw [UInt16.xor_zero] at this
  rw [this, crcF_none (fun _ _ => rfl)]
  simp
theorem fold_bits : ∀ (l : List UInt8) (s : UInt16), l.foldl crcByte s = crcF (bitAt l) (List.range (8 * l.length)) s
  | [], s => rfl
  | c :: l, s => by
    have e : 8 * (c :: l).length = 8 + 8 * l.length := by simp; omega
    rw [e, List.range_add, crcF_app, crcF_map, List.foldl_cons, crcByte_bits, fold_bits l]
    have e1 : ∀ s, crcF (bitAt (c :: l)) (List.range 8) s = crcF (fun j => c.toNat.testBit j) (List.range 8) s := by
      intro s
      refine crcF_congr (fun p hp => ?_) s
      have hp : p < 8 := by simpa using hp
      unfold bitAt
      rw [Nat.div_eq_of_lt hp, Nat.mod_eq_of_lt hp]; rfl
    rw [e1]
    refine crcF_congr (fun p _ => ?_) _
    unfold bitAt
    have d : (8 + p) / 8 = p / 8 + 1 := by omega
    have m : (8 + p) % 8 = p % 8 := by omega
    rw [d, m]; rfl
theorem bitc_xor (c : UInt8) {r j : Nat} (hr : r < 8) (hj : j < 8) : (c ^^^ (1 <<< UInt8.ofNat r)).toNat.testBit j = (c.toNat.testBit j ^^ decide (j = r)) := by
  rw [UInt8.toNat_xor, Nat.testBit_xor]
  congr 1
  have h : ∀ r : Fin 8, ∀ j : Fin 8, ((1 : UInt8) <<< UInt8.ofNat r.val).toNat.testBit j.val = decide (j.val = r.val) := by decide +kernel
  exact h ⟨r, hr⟩ ⟨j, hj⟩
/-- A turned bit. -/
theorem bitAt_set {l : List UInt8} {q : Nat} {c : UInt8} (h : l[q / 8]? = some c) (p : Nat) : bitAt (l.set (q / 8) (c ^^^ (1 <<< UInt8.ofNat (q % 8)))) p = (bitAt l p ^^ decide (p = q)) := by
  unfold bitAt
  have hl := (List.getElem?_eq_some_iff.1 h).1
  by_cases e : p / 8 = q / 8
  · rw [List.getD_eq_getElem?_getD, List.getD_eq_getElem?_getD, e, List.getElem?_set_self hl, h]
    simp only [Option.getD_some]
    rw [bitc_xor c (by omega) (by omega)]
    congr 1
    apply decide_eq_decide.2
    omega
  · rw [List.getD_eq_getElem?_getD, List.getD_eq_getElem?_getD, List.getElem?_set_ne (fun h => e h.symm)]
    have : ¬ p = q := fun h => e (by rw [h])
    simp [this]
theorem row_ext {l m : List UInt8} (hl : l.length = m.length) (h : ∀ p, p < 8 * l.length → bitAt l p = bitAt m p) : l = m := by
  apply List.ext_getElem hl
  intro i h1 h2
  apply UInt8.toNat_inj.1
  apply Nat.eq_of_testBit_eq
  intro j
  by_cases hj : j < 8
  · have := h (8 * i + j) (by omega)
    unfold bitAt at this
    have d : (8 * i + j) / 8 = i := by omega
    have m : (8 * i + j) % 8 = j := by omega
    rw [d, m] at this
    simpa [List.getD_eq_getElem?_getD, h1, h2] using this
  · have hp : 2 ^ 8 ≤ 2 ^ j := Nat.pow_le_pow_right (by decide) (by omega)
    have b1 := l[i].toNat_lt
    have b2 := m[i].toNat_lt
    rw [Nat.testBit_lt_two_pow (by omega), Nat.testBit_lt_two_pow (by omega)]
/-- Is it turned, by a burst at k, with i bits done? -/
def flipQ (k : Nat) (t : UInt16) (i p : Nat) : Bool := decide (k ≤ p ∧ p < k + i) && decide (t >>> UInt16.ofNat (p - k) &&& 1 = 1)
theorem flipQ_no {k : Nat} {t : UInt16} {i : Nat} (h : ¬ (t >>> UInt16.ofNat i &&& 1 = 1)) (p : Nat) : flipQ k t (i + 1) p = flipQ k t i p := by
  unfold flipQ
  by_cases e : p = k + i
  · subst e
    have : k + i - k = i := by omega
    rw [this]; simp [h]
  · congr 1
    apply decide_eq_decide.2; omega
theorem flipQ_yes {k : Nat} {t : UInt16} {i : Nat} (h : t >>> UInt16.ofNat i &&& 1 = 1) (p : Nat) : flipQ k t (i + 1) p = (flipQ k t i p ^^ decide (p = k + i)) := by
  unfold flipQ
  by_cases e : p = k + i
  · subst e
    have : k + i - k = i := by omega
    rw [this]; simp [h]
  · have e1 : decide (k ≤ p ∧ p < k + (i + 1)) = decide (k ≤ p ∧ p < k + i) := by apply decide_eq_decide.2; omega
    rw [e1]; simp [e]
theorem flipQ_none {k : Nat} {t : UInt16} (p : Nat) : flipQ k t 0 p = false := by
  unfold flipQ
  have : decide (k ≤ p ∧ p < k + 0) = false := decide_eq_false (by omega)
  rw [this]; rfl
/-- What a round has turned. -/
def Turned (x z : List UInt8) (k : Nat) (t : UInt16) (i : Nat) : Prop := z.length = x.length ∧ ∀ p, p < 8 * x.length → bitAt z p = (bitAt x p ^^ flipQ k t i p)
theorem Turned.zero (x : List UInt8) (k : Nat) (t : UInt16) : Turned x x k t 0 := ⟨rfl, fun p _ => by rw [flipQ_none]; simp⟩
theorem Turned.no {x z : List UInt8} {k : Nat} {t : UInt16} {i : Nat} (h : Turned x z k t i) (ht : ¬ (t >>> UInt16.ofNat i &&& 1 = 1)) : Turned x z k t (i + 1) := ⟨h.1, fun p hp => by rw [flipQ_no ht]; exact h.2 p hp⟩
theorem Turned.yes {x z : List UInt8} {k : Nat} {t : UInt16} {i : Nat} {c : UInt8} (h : Turned x z k t i) (ht : t >>> UInt16.ofNat i &&& 1 = 1) (hc : z[(k + i) / 8]? = some c) :
    Turned x (z.set ((k + i) / 8) (c ^^^ (1 <<< UInt8.ofNat ((k + i) % 8)))) k t (i + 1) :=
  ⟨by rw [List.length_set]; exact h.1, fun p hp => by rw [bitAt_set hc, h.2 p hp, flipQ_yes ht, Bool.xor_assoc]⟩
theorem Turned.cut {x z : List UInt8} {k : Nat} {t : UInt16} {i : Nat} (h : Turned x z k t i) (hi : 8 * x.length ≤ k + i) (hi2 : i ≤ 16) : Turned x z k t 16 :=
  ⟨h.1, fun p hp => by
    rw [h.2 p hp]; congr 1; unfold flipQ; congr 1; apply decide_eq_decide.2; omega⟩
/-- A burst of up to sixteen bits is seen. -/
theorem burst {x z : List UInt8} {k : Nat} {t : UInt16} (h : Turned x z k t 16) (hk : k ≤ 8 * x.length) (hx : crcSum x = 0) (hz : crcSum z = 0) : z = x := by
  have e : crcSum z = crcSum x ^^^ crcF (flipQ k t 16) (List.range (8 * x.length)) 0 := by
    unfold crcSum
    rw [fold_bits, fold_bits, h.1, ← crcF_xor, UInt16.xor_zero]
    exact crcF_congr (fun p hp => h.2 p (by simpa using hp)) _
  rw [hx, hz, UInt16.zero_xor] at e
  obtain ⟨m, hm⟩ : ∃ m, 8 * x.length = k + m := ⟨8 * x.length - k, by omega⟩
  have w : ∃ a b, m = a + b ∧ a ≤ 16 ∧ (b = 0 ∨ a = 16) := ⟨min m 16, m - min m 16, by omega, by omega, by omega⟩
  obtain ⟨a, b, hab, ha, hb⟩ := w
  rw [hm, List.range_add, crcF_app, crcF_none (L := List.range k) (fun p hp => by
    have : p < k := by simpa using hp
    unfold flipQ
    have : ¬ (k ≤ p ∧ p < k + 16) := by omega
    simp [this]), times_0, crcF_map, hab, List.range_add, crcF_app, crcF_map, crcF_val _ _ (by simpa using ha), crcF_none (L := List.range b) (fun p hp => by
    have : p < b := by simpa using hp
    unfold flipQ
    have : decide (k ≤ k + (a + p) ∧ k + (a + p) < k + 16) = false := decide_eq_false (by omega)
    rw [this]; rfl)] at e
  have hv := times_zero (times_zero e.symm)
  have hf := valF_zero _ _ (by simpa using ha) hv
  refine row_ext h.1 fun p hp => ?_
  rw [h.1] at hp
  rw [h.2 p hp]
  have : flipQ k t 16 p = false := by
    by_cases hw : k ≤ p ∧ p < k + 16
    · have := hf (p - k) (by simp; omega)
      simp only [show k + (p - k) = p by omega] at this
      exact this
    · unfold flipQ; simp [hw]
  rw [this]; simp
/-! ### Sealed rows -/
theorem two_bytes (s : UInt16) : crcByte (crcByte s s.toUInt8) (s >>> UInt16.ofNat 8).toUInt8 = 0 := by
  have h8 : ∀ a : UInt16, a.toNat < 256 → times crcBit 8 a = crcF (fun j => a.toNat.testBit j) (List.range 8) 0 := by
    intro a ha
    have := crcByte_bits 0 (UInt8.ofNat a.toNat)
    unfold crcByte at this
    rw [UInt16.zero_xor] at this
    have e1 : (UInt8.ofNat a.toNat).toUInt16 = a := by
      apply UInt16.toNat_inj.1
      simp [Nat.mod_eq_of_lt ha]
    have e2 : (UInt8.ofNat a.toNat).toNat = a.toNat := by simp [Nat.mod_eq_of_lt ha]
    rw [e1, e2] at this
    exact this
  -- eight steps over what has no low byte only shift
  have sh : ∀ n (a : UInt16), a.toNat * 2 ^ n < 65536 → ∀ b : UInt16, b.toNat = a.toNat * 2 ^ n → times crcBit n b = a := by
    intro n
    induction n with
    | zero => intro a _ b hb; apply UInt16.toNat_inj.1; simpa [times] using hb
    | succ n ih =>
      intro a ha b hb
      rw [times_in]
      have hp : a.toNat * 2 ^ (n + 1) = 2 * (a.toNat * 2 ^ n) := by rw [Nat.pow_succ, ← Nat.mul_assoc, Nat.mul_comm]
      obtain ⟨v, hv⟩ : ∃ v : UInt16, v.toNat = a.toNat * 2 ^ n := ⟨UInt16.ofNat (a.toNat * 2 ^ n), by rw [UInt16.toNat_ofNat']; apply Nat.mod_eq_of_lt; omega⟩
      have e : b = v <<< UInt16.ofNat 1 := by
        apply UInt16.toNat_inj.1
        rw [shl1 (by omega), hb, hv, hp]
      rw [e, crcBit_shl (by omega)]
      exact ih a (by omega) v hv
  have hs := s.toNat_lt
  have e1 : crcByte s s.toUInt8 = (s >>> UInt16.ofNat 8) := by
    unfold crcByte
    have hd : s ^^^ s.toUInt8.toUInt16 = UInt16.ofNat (s.toNat / 256 * 256) := by
      apply UInt16.toNat_inj.1
      rw [UInt16.toNat_xor, UInt8.toNat_toUInt16, UInt16.toNat_toUInt8, UInt16.toNat_ofNat', Nat.mod_eq_of_lt (a := s.toNat / 256 * 256) (b := 2 ^ 16) (by omega)]
      apply Nat.eq_of_testBit_eq
      intro i
      have q : s.toNat / 256 * 256 = (s.toNat / 2 ^ 8) * 2 ^ 8 := by rfl
      rw [Nat.testBit_xor, q, Nat.testBit_mul_two_pow, Nat.testBit_div_two_pow, Nat.testBit_mod_two_pow]
      by_cases hi : 8 ≤ i
      · have : ¬ i < 8 := by omega
        simp [hi, this, Nat.sub_add_cancel hi]
      · have : i < 8 := by omega
        simp [hi, this]
    rw [hd]
    have hsr : (s >>> UInt16.ofNat 8).toNat = s.toNat / 256 := by
      rw [UInt16.toNat_shiftRight]; exact Nat.shiftRight_eq_div_pow _ 8
    refine sh 8 _ (by rw [hsr]; omega) _ ?_
    rw [hsr, UInt16.toNat_ofNat', Nat.mod_eq_of_lt (by omega)]
  rw [e1]
  unfold crcByte
  have e2 : (s >>> UInt16.ofNat 8) ^^^ (s >>> UInt16.ofNat 8).toUInt8.toUInt16 = 0 := by
    have hsr : (s >>> UInt16.ofNat 8).toNat = s.toNat / 256 := by
      rw [UInt16.toNat_shiftRight]; exact Nat.shiftRight_eq_div_pow _ 8
    have : (s >>> UInt16.ofNat 8).toUInt8.toUInt16 = s >>> UInt16.ofNat 8 := by
      apply UInt16.toNat_inj.1
      rw [UInt8.toNat_toUInt16, UInt16.toNat_toUInt8, hsr]; omega
    rw [this, UInt16.xor_self]
  rw [e2, times_0]
theorem crc_sealed (l : List UInt8) : crcSum (sealL l) = 0 := by
  unfold sealL
  have : crcSum (l ++ [(crcSum l).toUInt8, (crcSum l >>> UInt16.ofNat 8).toUInt8]) = crcByte (crcByte (crcSum l) (crcSum l).toUInt8) (crcSum l >>> UInt16.ofNat 8).toUInt8 := by
    simp [crcSum, List.foldl_append]
  rw [this, two_bytes]
theorem open_sealed (l : List UInt8) : openOk (sealL l) = true ∧ openL (sealL l) = l := by
  have e : (sealL l).take ((sealL l).length - 2) = l := by
    rw [sealL_length]; unfold sealL; simp
  have h : openOk (sealL l) = true := by
    unfold openOk
    rw [e]; simp
  exact ⟨h, by unfold openL; rw [h]; simp only [if_true]; exact e⟩
theorem open_zero {z : List UInt8} (h : openOk z = true) : crcSum z = 0 := by
  unfold openOk at h
  simp only [Bool.and_eq_true, decide_eq_true_eq] at h
  rw [← h.2, crc_sealed]
/-- With up to sixteen bits turned a sealed row opens no more. -/
theorem burst_open {l z : List UInt8} {k : Nat} {t : UInt16} (h : Turned (sealL l) z k t 16) (hk : k ≤ 8 * (sealL l).length) : openOk z = decide (z = sealL l) := by
  by_cases e : z = sealL l
  · rw [e, (open_sealed l).1]; simp
  · simp only [e, decide_false]
    cases hz : openOk z with
    | false => rfl
    | true => exact absurd (burst h hk (crc_sealed l) (open_zero hz)) e
end Go.Proofs.Yteedhlgdbankiaa

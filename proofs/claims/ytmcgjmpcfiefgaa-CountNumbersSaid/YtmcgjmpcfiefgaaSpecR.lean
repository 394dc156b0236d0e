/- Requests, told plainly. -/
import Derived.Test.YtmcgjmpcfiefgaaSpecO
set_option linter.unusedVariables false
namespace Go.Proofs.Ytmcgjmpcfiefgaa
open Go Go.Proofs.Ytmcgjmpcfiefgaa.Pv

def hasF (n : Int) : Bool := decide ((1 ≤ n ∧ n ≤ 6) ∨ n = 8 ∨ n = 15 ∨ n = 16 ∨ n = 17 ∨ n = 22 ∨ n = 23)
theorem hasF_of {n : Int} (h : hasF n = true) : n = 1 ∨ n = 2 ∨ n = 3 ∨ n = 4 ∨ n = 5 ∨ n = 6 ∨ n = 8 ∨ n = 15 ∨ n = 16 ∨ n = 17 ∨ n = 22 ∨ n = 23 := by
  have := of_decide_eq_true h; omega
def wordOk (n : Int) : Bool := decide (0 ≤ n ∧ n ≤ 65535)
def usesS (n : Int) : List UInt8 := if n = 1 ∨ n = 2 ∨ n = 3 ∨ n = 4 then [97, 99] else if n = 5 then [97, 98] else if n = 6 then [97, 118] else if n = 8 then [115, 118] else if n = 15 then [97, 99, 98] else if n = 16 then [97, 99, 118] else if n = 22 then [97, 109] else if n = 23 then [97, 99, 119, 118] else []
theorem usesS_len (n : Int) : (usesS n).length ≤ 4 := by
  unfold usesS
  repeat' split
  all_goals simp
def inS (s : List UInt8) (c : UInt8) : Bool := decide (c ∈ s)
def listsR (q : TRequest) : Bool :=
  if q.fn = 5 then decide (q.bits.length = 1) else if q.fn = 6 ∨ q.fn = 8 then decide (q.vals.length = 1) else if q.fn = 15 then decide ((q.bits.length : Int) = q.count ∧ q.bits.length ≤ 2040)
  else if q.fn = 16 then decide ((q.vals.length : Int) = q.count ∧ q.vals.length ≤ 127) else if q.fn = 23 then decide (q.vals.length ≤ 127) else true
theorem listsR_5 {q : TRequest} (h : q.fn = 5) : listsR q = decide (((q.bits.length : Nat) : Int) = 1) := by unfold listsR; rw [if_pos h]; apply decide_eq_decide.2; omega
theorem listsR_6 {q : TRequest} (h : q.fn = 6) : listsR q = decide (((q.vals.length : Nat) : Int) = 1) := by unfold listsR; rw [if_neg (by omega), if_pos (.inl h)]; apply decide_eq_decide.2; omega
theorem listsR_8 {q : TRequest} (h : q.fn = 8) : listsR q = decide (((q.vals.length : Nat) : Int) = 1) := by unfold listsR; rw [if_neg (by omega), if_pos (.inr h)]; apply decide_eq_decide.2; omega
theorem listsR_15 {q : TRequest} (h : q.fn = 15) : listsR q = (decide (((q.bits.length : Nat) : Int) = q.count) && decide (((q.bits.length : Nat) : Int) ≤ 2040)) := by
  unfold listsR; rw [if_neg (by omega), if_neg (by omega), if_pos h, ← Bool.decide_and]; apply decide_eq_decide.2; omega
theorem listsR_16 {q : TRequest} (h : q.fn = 16) : listsR q = (decide (((q.vals.length : Nat) : Int) = q.count) && decide (((q.vals.length : Nat) : Int) ≤ 127)) := by
  unfold listsR; rw [if_neg (by omega), if_neg (by omega), if_neg (by omega), if_pos h, ← Bool.decide_and]; apply decide_eq_decide.2; omega
theorem listsR_23 {q : TRequest} (h : q.fn = 23) : listsR q = decide (((q.vals.length : Nat) : Int) ≤ 127) := by
  unfold listsR; rw [if_neg (by omega), if_neg (by omega), if_neg (by omega), if_neg (by omega), if_pos h]; apply decide_eq_decide.2; omega
theorem listsR_no {q : TRequest} (h : q.fn ≠ 5 ∧ q.fn ≠ 6 ∧ q.fn ≠ 8 ∧ q.fn ≠ 15 ∧ q.fn ≠ 16 ∧ q.fn ≠ 23) : listsR q = true := by
  unfold listsR; rw [if_neg (by omega), if_neg (by omega), if_neg (by omega), if_neg (by omega), if_neg (by omega)]
def badA (r : TRequest) : Bool := (((((((!(inS (usesS r.fn) 97)) && (!decide (r.at_ = 0))) || ((!(inS (usesS r.fn) 99)) && (!decide (r.count = 0)))) || ((!(inS (usesS r.fn) 119)) && (!decide (r.wAt = 0)))) || ((!(inS (usesS r.fn) 115)) && (!decide (r.sub = 0)))) || ((!(inS (usesS r.fn) 98)) && (decide (0 < ((r.bits.length : Nat) : Int))))) || ((!(inS (usesS r.fn) 118)) && (decide (0 < ((r.vals.length : Nat) : Int))))) || ((!(inS (usesS r.fn) 109)) && ((!decide (r.and_ = 0)) || (!decide (r.or_ = 0))))
def badB (r : TRequest) : Bool := ((((!(wordOk r.at_)) || (!(wordOk r.count))) || (!(wordOk r.wAt))) || (!(wordOk r.sub))) || (!(listsR r))
/-- Why a request may not be. -/
def rightR (q : TRequest) : Int := if (!(hasF q.fn)) = true then 15 else if badA q = true then 12 else if badB q = true then 12 else 0
theorem rightR_1 {q : TRequest} (h : (!(hasF q.fn)) = true) : rightR q = 15 := by unfold rightR; rw [if_pos h]
theorem rightR_2 {q : TRequest} (h : (!(hasF q.fn)) = false) (h2 : badA q = true) : rightR q = 12 := by unfold rightR; rw [if_neg (by simp [h]), if_pos h2]
theorem rightR_3 {q : TRequest} (h : (!(hasF q.fn)) = false) (h2 : badA q = false) (h3 : badB q = true) : rightR q = 12 := by unfold rightR; rw [if_neg (by simp [h]), if_neg (by simp [h2]), if_pos h3]
theorem rightR_4 {q : TRequest} (h : (!(hasF q.fn)) = false) (h2 : badA q = false) (h3 : badB q = false) : rightR q = 0 := by unfold rightR; rw [if_neg (by simp [h]), if_neg (by simp [h2]), if_neg (by simp [h3])]
theorem in_all {n : Int} (h : hasF n = true) : inS (usesS n) 97 = decide (n ≠ 8 ∧ n ≠ 17) ∧ inS (usesS n) 99 = decide (n ≤ 4 ∨ n = 15 ∨ n = 16 ∨ n = 23) ∧ inS (usesS n) 119 = decide (n = 23) ∧ inS (usesS n) 115 = decide (n = 8) ∧
    inS (usesS n) 98 = decide (n = 5 ∨ n = 15) ∧ inS (usesS n) 118 = decide (n = 6 ∨ n = 8 ∨ n = 16 ∨ n = 23) ∧ inS (usesS n) 109 = decide (n = 22) := by
  rcases hasF_of h with h | h | h | h | h | h | h | h | h | h | h | h <;> subst h <;> decide
theorem u16z {x : UInt16} : x = 0 ↔ x.toNat = 0 := ⟨fun h => by rw [h]; rfl, fun h => UInt16.toNat_inj.1 h⟩
/-- What a request must be, its function once known. -/
structure ShapeR (q : TRequest) : Prop where
  wa : 0 ≤ q.at_ ∧ q.at_ ≤ 65535
  wc : 0 ≤ q.count ∧ q.count ≤ 65535
  ww : 0 ≤ q.wAt ∧ q.wAt ≤ 65535
  ws : 0 ≤ q.sub ∧ q.sub ≤ 65535
  za : (q.fn = 8 ∨ q.fn = 17) → q.at_ = 0
  zc : ¬ (q.fn ≤ 4 ∨ q.fn = 15 ∨ q.fn = 16 ∨ q.fn = 23) → q.count = 0
  zw : q.fn ≠ 23 → q.wAt = 0
  zs : q.fn ≠ 8 → q.sub = 0
  zm : q.fn ≠ 22 → q.and_.toNat = 0 ∧ q.or_.toNat = 0
  bits : if q.fn = 5 then q.bits.length = 1 else if q.fn = 15 then (q.bits.length : Int) = q.count ∧ q.bits.length ≤ 2040 else q.bits.length = 0
  vals : if q.fn = 6 ∨ q.fn = 8 then q.vals.length = 1 else if q.fn = 16 then (q.vals.length : Int) = q.count ∧ q.vals.length ≤ 127 else if q.fn = 23 then q.vals.length ≤ 127 else q.vals.length = 0
theorem shapeR_iff {q : TRequest} (h : hasF q.fn = true) : rightR q = 0 ↔ ShapeR q := by
  obtain ⟨ia, ic, iw, is, ib, iv, im⟩ := in_all h
  have h0 : (!(hasF q.fn)) = false := by simp [h]
  have e : rightR q = 0 ↔ badA q = false ∧ badB q = false := by
    cases ha : badA q with
    | true => rw [rightR_2 h0 ha]; simp
    | false =>
      cases hb : badB q with
      | true => rw [rightR_3 h0 ha hb]; simp
      | false => rw [rightR_4 h0 ha hb]; simp
  rw [e]
  unfold badA badB
  rw [ia, ic, iw, is, ib, iv, im]
  have hz := @u16z q.and_
  have hz2 := @u16z q.or_
  have hf := hasF_of h
  simp only [Bool.or_eq_false_iff, Bool.and_eq_false_iff, Bool.not_eq_false', decide_eq_true_eq, decide_eq_false_iff_not, wordOk, hz, hz2]
  constructor
  · rintro ⟨⟨⟨⟨⟨⟨⟨a1, a2⟩, a3⟩, a4⟩, a5⟩, a6⟩, a7⟩, ⟨⟨⟨b1, b2⟩, b3⟩, b4⟩, b5⟩
    unfold listsR at b5
    refine ⟨b1, b2, b3, b4, by omega, by omega, by omega, by omega, by omega, ?_, ?_⟩
    · repeat' split
      all_goals (repeat' split at b5) <;> first | omega | (simp only [decide_eq_true_eq] at b5; omega)
    · repeat' split
      all_goals (repeat' split at b5) <;> first | omega | (simp only [decide_eq_true_eq] at b5; omega)
  · rintro ⟨wa, wc, ww, ws, za, zc, zw, zs, zm, hb, hv⟩
    refine ⟨⟨⟨⟨⟨⟨⟨by omega, by omega⟩, by omega⟩, by omega⟩, ?_⟩, ?_⟩, by omega⟩, ⟨⟨⟨wa, wc⟩, ww⟩, ws⟩, ?_⟩
    · repeat' split at hb
      all_goals omega
    · repeat' split at hv
      all_goals omega
    · unfold listsR
      repeat' split
      all_goals first | rfl | (apply decide_eq_true; (repeat' split at hb) <;> (repeat' split at hv) <;> omega)
theorem rightR_form {q : TRequest} (h : hasF q.fn = true) (h2 : ¬ ShapeR q) : rightR q = 12 := by
  have h0 : (!(hasF q.fn)) = false := by simp [h]
  cases ha : badA q with
  | true => exact rightR_2 h0 ha
  | false =>
    cases hb : badB q with
    | true => exact rightR_3 h0 ha hb
    | false => exact absurd ((shapeR_iff h).1 (rightR_4 h0 ha hb)) h2
theorem rightR_zero {q : TRequest} (h : rightR q = 0) : hasF q.fn = true ∧ ShapeR q := by
  cases hf : hasF q.fn with
  | true => exact ⟨rfl, (shapeR_iff hf).1 h⟩
  | false => rw [rightR_1 (by simp [hf])] at h; cases h
/-! ### As bytes -/
def rowX (x : List UInt8) : List UInt8 := UInt8.ofNat x.length :: x
def writeT (q : TRequest) : List UInt8 :=
  if q.fn = 1 ∨ q.fn = 2 ∨ q.fn = 3 ∨ q.fn = 4 then put2 q.at_ ++ put2 q.count
  else if q.fn = 5 then put2 q.at_ ++ put2 (if q.bits.getD 0 false = true then 65280 else 0)
  else if q.fn = 6 then put2 q.at_ ++ put2 (((q.vals.getD 0 0).toNat : Nat) : Int)
  else if q.fn = 8 then put2 q.sub ++ put2 (((q.vals.getD 0 0).toNat : Nat) : Int)
  else if q.fn = 15 then put2 q.at_ ++ (put2 q.count ++ rowX (packL q.bits))
  else if q.fn = 16 then put2 q.at_ ++ (put2 q.count ++ rowX (bytesL q.vals))
  else if q.fn = 22 then put2 q.at_ ++ (put2 ((q.and_.toNat : Nat) : Int) ++ put2 ((q.or_.toNat : Nat) : Int))
  else if q.fn = 23 then put2 q.at_ ++ (put2 q.count ++ (put2 q.wAt ++ (put2 ((q.vals.length : Nat) : Int) ++ rowX (bytesL q.vals))))
  else []
def writeR (q : TRequest) : List UInt8 := u8I q.fn :: writeT q
theorem writeR_1 {q : TRequest} (h : q.fn = 1 ∨ q.fn = 2 ∨ q.fn = 3 ∨ q.fn = 4) : writeR q = u8I q.fn :: (put2 q.at_ ++ put2 q.count) := by
  unfold writeR writeT; rw [if_pos h]
theorem writeR_5 {q : TRequest} (h : q.fn = 5) {e : Bool} (he : q.bits[0]? = some e) : writeR q = u8I q.fn :: (put2 q.at_ ++ put2 (if e = true then 65280 else 0)) := by
  unfold writeR writeT; rw [if_neg (by omega), if_pos h, List.getD_eq_getElem?_getD, he]; rfl
theorem writeR_6 {q : TRequest} (h : q.fn = 6) {e : UInt16} (he : q.vals[0]? = some e) : writeR q = u8I q.fn :: (put2 q.at_ ++ put2 ((e.toNat : Nat) : Int)) := by
  unfold writeR writeT; rw [if_neg (by omega), if_neg (by omega), if_pos h, List.getD_eq_getElem?_getD, he]; rfl
theorem writeR_8 {q : TRequest} (h : q.fn = 8) {e : UInt16} (he : q.vals[0]? = some e) : writeR q = u8I q.fn :: (put2 q.sub ++ put2 ((e.toNat : Nat) : Int)) := by
  unfold writeR writeT; rw [if_neg (by omega), if_neg (by omega), if_neg (by omega), if_pos h, List.getD_eq_getElem?_getD, he]; rfl
theorem writeR_15 {q : TRequest} (h : q.fn = 15) : writeR q = u8I q.fn :: (put2 q.at_ ++ (put2 q.count ++ rowX (packL q.bits))) := by
  unfold writeR writeT; rw [if_neg (by omega), if_neg (by omega), if_neg (by omega), if_neg (by omega), if_pos h]
theorem writeR_16 {q : TRequest} (h : q.fn = 16) : writeR q = u8I q.fn :: (put2 q.at_ ++ (put2 q.count ++ rowX (bytesL q.vals))) := by
  unfold writeR writeT; rw [if_neg (by omega), if_neg (by omega), if_neg (by omega), if_neg (by omega), if_neg (by omega), if_pos h]
theorem writeR_22 {q : TRequest} (h : q.fn = 22) : writeR q = u8I q.fn :: (put2 q.at_ ++ (put2 ((q.and_.toNat : Nat) : Int) ++ put2 ((q.or_.toNat : Nat) : Int))) := by
  unfold writeR writeT; rw [if_neg (by omega), if_neg (by omega), if_neg (by omega), if_neg (by omega), if_neg (by omega), if_neg (by omega), if_pos h]
theorem writeR_23 {q : TRequest} (h : q.fn = 23) : writeR q = u8I q.fn :: (put2 q.at_ ++ (put2 q.count ++ (put2 q.wAt ++ (put2 ((q.vals.length : Nat) : Int) ++ rowX (bytesL q.vals))))) := by
  unfold writeR writeT; rw [if_neg (by omega), if_neg (by omega), if_neg (by omega), if_neg (by omega), if_neg (by omega), if_neg (by omega), if_neg (by omega), if_pos h]
theorem writeR_no {q : TRequest} (h : ¬ (q.fn = 1 ∨ q.fn = 2 ∨ q.fn = 3 ∨ q.fn = 4) ∧ q.fn ≠ 5 ∧ q.fn ≠ 6 ∧ q.fn ≠ 8 ∧ q.fn ≠ 15 ∧ q.fn ≠ 16 ∧ q.fn ≠ 22 ∧ q.fn ≠ 23) : writeR q = [u8I q.fn] := by
  unfold writeR writeT; rw [if_neg (by omega), if_neg (by omega), if_neg (by omega), if_neg (by omega), if_neg (by omega), if_neg (by omega), if_neg (by omega), if_neg (by omega)]
def bytesR (q : TRequest) : List UInt8 := if rightR q = 0 then writeR q else []
@[simp] theorem rowX_length (x : List UInt8) : (rowX x).length = x.length + 1 := by simp [rowX]
theorem writeR_len {q : TRequest} (h : ShapeR q) : 1 ≤ (writeR q).length ∧ (writeR q).length ≤ 264 := by
  obtain ⟨wa, wc, ww, ws, za, zc, zw, zs, zm, hb, hv⟩ := h
  unfold writeR writeT
  refine ⟨by simp, ?_⟩
  repeat' split
  all_goals simp only [List.length_cons, List.length_append, put2_length, rowX_length, packL_length, bytesL_length, List.length_nil]
  all_goals (repeat' split at hb) <;> (repeat' split at hv) <;> omega
theorem writeR_small {q : TRequest} (h : ShapeR q) (hb2 : q.bits.length ≤ 25) (hv2 : q.vals.length ≤ 25) : 1 ≤ (writeR q).length ∧ (writeR q).length ≤ 62 := by
  unfold writeR writeT
  refine ⟨by simp, ?_⟩
  repeat' split
  all_goals simp only [List.length_cons, List.length_append, put2_length, rowX_length, packL_length, bytesL_length, List.length_nil]
  all_goals omega
end Go.Proofs.Ytmcgjmpcfiefgaa

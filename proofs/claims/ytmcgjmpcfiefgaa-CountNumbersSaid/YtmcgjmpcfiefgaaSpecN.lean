/- Counts, told plainly. -/
import Derived.Test.YtmcgjmpcfiefgaaSpecK
set_option linter.unusedVariables false
namespace Go.Proofs.Ytmcgjmpcfiefgaa
open Go Go.Proofs.Ytmcgjmpcfiefgaa.Pv

def bitsN (q : TRequest) : Int := if q.fn = 5 then 1 else if q.fn = 15 then q.count else 0
def valsN (q : TRequest) : Int := if q.fn = 6 ∨ q.fn = 8 then 1 else if q.fn = 16 then q.count else if q.fn = 23 then ((q.vals.length : Nat) : Int) else 0
def fieldsP (q : TRequest) : Bool := decide (((q.fn ≠ 8 ∧ q.fn ≠ 17) ∨ q.at_ = 0) ∧ (((1 ≤ q.fn ∧ q.fn ≤ 4) ∨ q.fn = 15 ∨ q.fn = 16 ∨ q.fn = 23) ∨ q.count = 0) ∧ (q.fn = 23 ∨ q.wAt = 0) ∧ (q.fn = 8 ∨ q.sub = 0) ∧ (q.fn = 22 ∨ (q.and_.toNat = 0 ∧ q.or_.toNat = 0)))
def restP (q : TRequest) : Bool := ((((!(fieldsP q)) || (!(wordOk q.at_))) || (!(wordOk q.wAt))) || (!(wordOk q.sub))) || (!(wordOk q.count))
theorem shape_P {q : TRequest} (hf : hasF q.fn = true) : ShapeR q ↔ restP q = false ∧ ((q.bits.length : Nat) : Int) = bitsN q ∧ ((q.vals.length : Nat) : Int) = valsN q ∧ q.bits.length ≤ 2040 ∧ q.vals.length ≤ 127 := by
  have hc := hasF_of hf
  unfold restP fieldsP wordOk bitsN valsN
  simp only [Bool.or_eq_false_iff, Bool.not_eq_false', decide_eq_true_eq]
  constructor
  · rintro ⟨wa, wc, ww, ws, za, zc, zw, zs, zm, hb, hv⟩
    refine ⟨⟨⟨⟨⟨⟨by omega, by omega, by omega, by omega, by omega⟩, wa⟩, ww⟩, ws⟩, wc⟩, ?_, ?_, ?_, ?_⟩
    · repeat' split at hb
      all_goals (repeat' split) <;> omega
    · repeat' split at hv
      all_goals (repeat' split) <;> omega
    · repeat' split at hb
      all_goals omega
    · repeat' split at hv
      all_goals omega
  · rintro ⟨⟨⟨⟨⟨⟨a1, a2, a3, a4, a5⟩, wa⟩, ww⟩, ws⟩, wc⟩, hb, hv, hb2, hv2⟩
    refine ⟨wa, wc, ww, ws, by omega, by omega, by omega, by omega, by omega, ?_, ?_⟩
    · repeat' split at hb
      all_goals (repeat' split) <;> omega
    · repeat' split at hv
      all_goals (repeat' split) <;> omega
theorem right_P {q : TRequest} (hf : hasF q.fn = true) (h1 : restP q = false) (h2 : ((q.bits.length : Nat) : Int) = bitsN q) (h3 : ((q.vals.length : Nat) : Int) = valsN q) (h4 : q.bits.length ≤ 2040) (h5 : q.vals.length ≤ 127) : rightR q = 0 :=
  (shapeR_iff hf).2 ((shape_P hf).2 ⟨h1, h2, h3, h4, h5⟩)
theorem wrong_P {q : TRequest} (hf : hasF q.fn = true) (h : ¬ (restP q = false ∧ ((q.bits.length : Nat) : Int) = bitsN q ∧ ((q.vals.length : Nat) : Int) = valsN q ∧ q.bits.length ≤ 2040 ∧ q.vals.length ≤ 127)) : rightR q = 12 :=
  rightR_form hf fun hs => h ((shape_P hf).1 hs)
def refuseR (fn code : Int) : TReply := ⟨((fn % 2 ^ 7).toNat : Int), ((code % 2 ^ 8).toNat : Int), 0, 0, 0, [], [], 0, 0, []⟩
def cntGet (m e b sub : Int) : UInt16 := if sub = 11 ∨ sub = 14 then u16I m else if sub = 12 then u16I b else if sub = 13 then u16I e else 0
def cntOk (sub : Int) : Bool := decide (sub = 11 ∨ sub = 14 ∨ sub = 12 ∨ sub = 13)
def cC (x : Int) (t : Bool) : Int := if t = true then 0 else x
def cntDo (m e b : Int) (q : TRequest) (u : Int) : TReply × Bool :=
  if q.fn ≠ 8 ∧ q.fn ≠ 17 then (refuseR q.fn 1, false)
  else if rightR q ≠ 0 then (refuseR q.fn 3, false)
  else if q.fn = 17 then (⟨q.fn, 0, 0, 0, 0, [], [], 0, 0, [u8I u, 255]⟩, false)
  else if q.sub = 0 then (⟨q.fn, 0, 0, 0, q.sub, [], q.vals, 0, 0, []⟩, false)
  else if q.sub = 10 then (⟨q.fn, 0, 0, 0, q.sub, [], q.vals, 0, 0, []⟩, true)
  else if cntOk q.sub = false ∨ q.vals.getD 0 0 ≠ 0 then (refuseR q.fn 3, false)
  else (⟨q.fn, 0, 0, 0, q.sub, [], q.vals.set 0 (cntGet m e b q.sub), 0, 0, []⟩, false)
section
variable {m e b u : Int} {q : TRequest}
theorem cntDo_1 (h : q.fn ≠ 8 ∧ q.fn ≠ 17) : cntDo m e b q u = (refuseR q.fn 1, false) := by unfold cntDo; rw [if_pos h]
theorem cntDo_2 (h : ¬ (q.fn ≠ 8 ∧ q.fn ≠ 17)) (h2 : rightR q ≠ 0) : cntDo m e b q u = (refuseR q.fn 3, false) := by unfold cntDo; rw [if_neg h, if_pos h2]
theorem cntDo_3 (h2 : ¬ rightR q ≠ 0) (h3 : q.fn = 17) : cntDo m e b q u = (⟨q.fn, 0, 0, 0, 0, [], [], 0, 0, [u8I u, 255]⟩, false) := by unfold cntDo; rw [if_neg (by omega), if_neg h2, if_pos h3]
theorem cntDo_4 (h2 : ¬ rightR q ≠ 0) (h3 : q.fn = 8) (h4 : q.sub = 0) : cntDo m e b q u = (⟨q.fn, 0, 0, 0, q.sub, [], q.vals, 0, 0, []⟩, false) := by unfold cntDo; rw [if_neg (by omega), if_neg h2, if_neg (by omega), if_pos h4]
theorem cntDo_5 (h2 : ¬ rightR q ≠ 0) (h3 : q.fn = 8) (h4 : q.sub = 10) : cntDo m e b q u = (⟨q.fn, 0, 0, 0, q.sub, [], q.vals, 0, 0, []⟩, true) := by unfold cntDo; rw [if_neg (by omega), if_neg h2, if_neg (by omega), if_neg (by omega), if_pos h4]
theorem cntDo_6 (h2 : ¬ rightR q ≠ 0) (h3 : q.fn = 8) (h4 : q.sub ≠ 0 ∧ q.sub ≠ 10) (h5 : cntOk q.sub = false ∨ q.vals.getD 0 0 ≠ 0) : cntDo m e b q u = (refuseR q.fn 3, false) := by unfold cntDo; rw [if_neg (by omega), if_neg h2, if_neg (by omega), if_neg (by omega), if_neg (by omega), if_pos h5]
theorem cntDo_7 (h2 : ¬ rightR q ≠ 0) (h3 : q.fn = 8) (h4 : q.sub ≠ 0 ∧ q.sub ≠ 10) (h5 : cntOk q.sub = true) {x : UInt16} (hx : q.vals[0]? = some x) (h6 : x = 0) : cntDo m e b q u = (⟨q.fn, 0, 0, 0, q.sub, [], q.vals.set 0 (cntGet m e b q.sub), 0, 0, []⟩, false) := by
  unfold cntDo; rw [if_neg (by omega), if_neg h2, if_neg (by omega), if_neg (by omega), if_neg (by omega), if_neg]
  rw [List.getD_eq_getElem?_getD, hx, h5, h6]; simp
theorem vals_8 (h2 : ¬ rightR q ≠ 0) (h3 : q.fn = 8) : q.vals.length = 1 := by
  have := (rightR_zero (q := q) (by omega)).2.vals
  rw [if_pos (.inr h3)] at this; exact this
theorem u8_mask (n : Int) : UInt8.ofNat (n % 2 ^ 8).toNat = u8I n := rfl
theorem cntGet_1 {s : Int} (h : s = 11 ∨ s = 14) : cntGet m e b s = u16I m := by unfold cntGet; rw [if_pos h]
theorem cntGet_2 {s : Int} (h : s = 12) : cntGet m e b s = u16I b := by unfold cntGet; rw [if_neg (by omega), if_pos h]
theorem cntGet_3 {s : Int} (h : s = 13) : cntGet m e b s = u16I e := by unfold cntGet; rw [if_neg (by omega), if_neg (by omega), if_pos h]
theorem cntGet_no {s : Int} (h : ¬ (s = 11 ∨ s = 14 ∨ s = 12 ∨ s = 13)) : cntGet m e b s = 0 := by unfold cntGet; rw [if_neg (by omega), if_neg (by omega), if_neg (by omega)]
end
def heldN (n : Int) : Int := max (min n 1073741824) 0
theorem cC_or (x : Int) (t : Bool) : cC x t = 0 ∨ cC x t = x := by unfold cC; split <;> simp
theorem cntDo_len {m e b u : Int} {q : TRequest} {D : TReply × Bool} (h : D = cntDo m e b q u) : D.1.bits.length = 0 ∧ D.1.vals.length ≤ q.vals.length ∧ D.1.data.length ≤ 2 := by
  subst h
  unfold cntDo refuseR
  repeat' split
  all_goals simp
theorem cnt_11 {m e b u : Int} {D : TReply × Bool} (h : D = cntDo m e b (⟨8, 0, 0, 0, 11, [], [0], 0, 0⟩ : TRequest) u) : D.2 = false := by
  rw [h, cntDo_7 (by decide +kernel) rfl (by decide) (by decide) (x := 0) rfl rfl]
theorem cnt_10 {m e b u : Int} {D : TReply × Bool} (h : D = cntDo m e b (⟨8, 0, 0, 0, 10, [], [0], 0, 0⟩ : TRequest) u) : D.2 = true := by
  rw [h, cntDo_5 (by decide +kernel) rfl rfl]
theorem u16_nat (x : Int) (h : 0 ≤ x ∧ x < 65536) : (((u16I x).toNat : Nat) : Int) = x := by rw [u16I_ofNat]; omega
end Go.Proofs.Ytmcgjmpcfiefgaa

/- Frames on the line, told plainly. -/
import Derived.Test.YtmcgjmpcfiefgaaSpecC
import Derived.Test.YtmcgjmpcfiefgaaSpecO
namespace Go.Proofs.Ytmcgjmpcfiefgaa
open Go Go.Proofs.Ytmcgjmpcfiefgaa.Pv

def frameE (a : Int) (p : List UInt8) : Int := if a < 1 ∨ 247 < a then 1 else if p.length = 0 then 13 else if 253 < p.length then 3 else 0
def frameV (a : Int) (p : List UInt8) : List UInt8 := if frameE a p = 0 then sealL (u8I a :: p) else []
theorem frameE_arg {a : Int} {p : List UInt8} (h : a < 1 ∨ 247 < a) : frameE a p = 1 ∧ frameV a p = [] := by
  have e : frameE a p = 1 := by unfold frameE; rw [if_pos h]
  exact ⟨e, by unfold frameV; rw [if_neg (by omega)]⟩
theorem frameE_short {a : Int} {p : List UInt8} (h : ¬ (a < 1 ∨ 247 < a)) (h2 : p.length = 0) : frameE a p = 13 ∧ frameV a p = [] := by
  have e : frameE a p = 13 := by unfold frameE; rw [if_neg h, if_pos h2]
  exact ⟨e, by unfold frameV; rw [if_neg (by omega)]⟩
theorem frameE_long {a : Int} {p : List UInt8} (h : ¬ (a < 1 ∨ 247 < a)) (h2 : ¬ p.length = 0) (h3 : 253 < p.length) : frameE a p = 3 ∧ frameV a p = [] := by
  have e : frameE a p = 3 := by unfold frameE; rw [if_neg h, if_neg h2, if_pos h3]
  exact ⟨e, by unfold frameV; rw [if_neg (by omega)]⟩
theorem frameE_ok {a : Int} {p : List UInt8} (h : ¬ (a < 1 ∨ 247 < a)) (h2 : ¬ p.length = 0) (h3 : ¬ 253 < p.length) : frameE a p = 0 ∧ frameV a p = sealL (u8I a :: p) := by
  have e : frameE a p = 0 := by unfold frameE; rw [if_neg h, if_neg h2, if_neg h3]
  exact ⟨e, by unfold frameV; rw [if_pos e]⟩
def readE (b : List UInt8) : Int := if b.length < 4 then 13 else if 256 < b.length then 3 else if openOk b = false then 14 else if (b.getD 0 0).toNat < 1 ∨ 247 < (b.getD 0 0).toNat then 1 else 0
def readA (b : List UInt8) : Int := if readE b = 0 then (((b.getD 0 0).toNat : Nat) : Int) else 0
def readP (b : List UInt8) : List UInt8 := if readE b = 0 then (openL b).drop 1 else []
theorem read_no {b : List UInt8} {e : Int} (h : readE b = e) (he : e ≠ 0) : readA b = 0 ∧ readP b = [] := by
  have : ¬ readE b = 0 := by omega
  unfold readA readP
  rw [if_neg this, if_neg this]; exact ⟨rfl, rfl⟩
theorem readE_short {b : List UInt8} (h : b.length < 4) : readE b = 13 := by unfold readE; rw [if_pos h]
theorem readE_long {b : List UInt8} (h : ¬ b.length < 4) (h2 : 256 < b.length) : readE b = 3 := by unfold readE; rw [if_neg h, if_pos h2]
theorem readE_sum {b : List UInt8} (h : ¬ b.length < 4) (h2 : ¬ 256 < b.length) (h3 : openOk b = false) : readE b = 14 := by unfold readE; rw [if_neg h, if_neg h2, if_pos h3]
theorem open_len {b : List UInt8} (h : openOk b = true) : openL b = b.take (b.length - 2) ∧ (openL b).length = b.length - 2 := by
  have e : openL b = b.take (b.length - 2) := by unfold openL; rw [if_pos h]
  exact ⟨e, by rw [e, List.length_take]; omega⟩
theorem open_head {b : List UInt8} (h : openOk b = true) (h4 : ¬ b.length < 4) {x : UInt8} (hx : (openL b)[0]? = some x) : b.getD 0 0 = x := by
  rw [(open_len h).1, List.getElem?_take, if_pos (by omega)] at hx
  rw [List.getD_eq_getElem?_getD, hx]; rfl
theorem readE_arg {b : List UInt8} (h : ¬ b.length < 4) (h2 : ¬ 256 < b.length) (h3 : openOk b = true) {x : UInt8} (hx : (openL b)[0]? = some x) (h4 : x.toNat < 1 ∨ 247 < x.toNat) : readE b = 1 := by
  unfold readE; rw [if_neg h, if_neg h2, if_neg (by simp [h3]), open_head h3 h hx, if_pos h4]
theorem readE_ok {b : List UInt8} (h : ¬ b.length < 4) (h2 : ¬ 256 < b.length) (h3 : openOk b = true) {x : UInt8} (hx : (openL b)[0]? = some x) (h4 : ¬ (x.toNat < 1 ∨ 247 < x.toNat)) : readE b = 0 ∧ readA b = ((x.toNat : Nat) : Int) ∧ readP b = (openL b).drop 1 := by
  have e : readE b = 0 := by unfold readE; rw [if_neg h, if_neg h2, if_neg (by simp [h3]), open_head h3 h hx, if_neg h4]
  exact ⟨e, by unfold readA; rw [if_pos e, open_head h3 h hx], by unfold readP; rw [if_pos e]⟩
/-! ### Parted by silence -/
abbrev Sp := List (List UInt8) × List UInt8 × Bool × Int
def spE (os : List (List UInt8)) (cur : List UInt8) (sp : Bool) : List (List UInt8) := if cur ≠ [] ∧ sp = false then os ++ [cur] else os
theorem spE_no {os : List (List UInt8)} {cur : List UInt8} {sp : Bool} (h : cur = [] ∨ sp = true) : spE os cur sp = os := by
  unfold spE; rw [if_neg]; rcases h with h | h <;> simp [h]
theorem spE_yes {os : List (List UInt8)} {cur : List UInt8} {sp : Bool} (h : cur ≠ []) (h2 : sp = false) : spE os cur sp = os ++ [cur] := by
  unfold spE; rw [if_pos ⟨h, h2⟩]
def spEnd (s : Sp) : List (List UInt8) := spE s.1 s.2.1 s.2.2.1
def spGap (i : Nat) (t : Int) (s : Sp) : Sp :=
  if i = 0 then (s.1, s.2.1, s.2.2.1, t)
  else if 4 ≤ max t s.2.2.2 - s.2.2.2 then (spEnd s, [], false, max t s.2.2.2)
  else if 2 ≤ max t s.2.2.2 - s.2.2.2 then (s.1, s.2.1, true, max t s.2.2.2)
  else (s.1, s.2.1, s.2.2.1, max t s.2.2.2)
def spPut (x : UInt8) (s : Sp) : Sp := (s.1, s.2.1 ++ [x], s.2.2.1, s.2.2.2)
def spT (ts : List Int) (b : List UInt8) : Nat → Sp
  | 0 => ([], [], false, 0)
  | i + 1 => spPut (b.getD i 0) (spGap i (ts.getD i 0) (spT ts b i))
def splitV (ts : List Int) (b : List UInt8) : List (List UInt8) := spEnd (spT ts b (min ts.length b.length))
theorem spT_next {ts : List Int} {b : List UInt8} {i : Nat} {t : Int} {x : UInt8} (ht : ts[i]? = some t) (hx : b[i]? = some x) : spT ts b (i + 1) = spPut x (spGap i t (spT ts b i)) := by
  simp only [spT, List.getD_eq_getElem?_getD, ht, hx, Option.getD_some]
theorem spT_cur (ts : List Int) (b : List UInt8) : ∀ {i : Nat}, 0 < i → (spT ts b i).2.1 ≠ []
  | i + 1, _ => by simp [spT, spPut]
theorem spGap_0 (t : Int) (s : Sp) : spGap 0 t s = (s.1, s.2.1, s.2.2.1, t) := by simp [spGap]
theorem spGap_4 {i : Nat} {t : Int} {s : Sp} (h : 0 < i) (h4 : 4 ≤ max t s.2.2.2 - s.2.2.2) : spGap i t s = (spEnd s, [], false, max t s.2.2.2) := by
  unfold spGap; rw [if_neg (by omega), if_pos h4]
theorem spGap_2 {i : Nat} {t : Int} {s : Sp} (h : 0 < i) (h4 : ¬ 4 ≤ max t s.2.2.2 - s.2.2.2) (h2 : 2 ≤ max t s.2.2.2 - s.2.2.2) : spGap i t s = (s.1, s.2.1, true, max t s.2.2.2) := by
  unfold spGap; rw [if_neg (by omega), if_neg h4, if_pos h2]
theorem spGap_1 {i : Nat} {t : Int} {s : Sp} (h : 0 < i) (h4 : ¬ 4 ≤ max t s.2.2.2 - s.2.2.2) (h2 : ¬ 2 ≤ max t s.2.2.2 - s.2.2.2) : spGap i t s = (s.1, s.2.1, s.2.2.1, max t s.2.2.2) := by
  unfold spGap; rw [if_neg (by omega), if_neg h4, if_neg h2]
theorem spEnd_len (s : Sp) : (spEnd s).length ≤ s.1.length + 1 := by unfold spEnd spE; split <;> simp
theorem spGap_len (i : Nat) (t : Int) (s : Sp) : (spGap i t s).1.length ≤ s.1.length + 1 ∧ (spGap i t s).2.1.length ≤ s.2.1.length := by
  have := spEnd_len s
  unfold spGap
  repeat' split
  all_goals simp; try omega
theorem spT_len (ts : List Int) (b : List UInt8) : ∀ i : Nat, (spT ts b i).1.length ≤ i ∧ (spT ts b i).2.1.length ≤ i
  | 0 => by simp [spT]
  | i + 1 => by
    have h1 := spT_len ts b i
    have h2 := spGap_len i (ts.getD i 0) (spT ts b i)
    simp only [spT, spPut, List.length_append, List.length_singleton]
    omega
theorem gap_u64 {a b : Int} (ha : -9223372036854775808 ≤ a ∧ a ≤ 9223372036854775807) (hb : -9223372036854775808 ≤ b ∧ b ≤ 9223372036854775807) (h : b ≤ a) : IntKind.u64.wrap (IntKind.u64.wrap a - IntKind.u64.wrap b) = a - b := by
  rw [wrap_u64, wrap_u64, wrap_u64]; omega
end Go.Proofs.Ytmcgjmpcfiefgaa

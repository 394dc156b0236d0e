/- Tapes of numbers, and the requests made of them, told plainly. -/
import Derived.Test.YtmcgjmpcfiefgaaSpecR
set_option linter.unusedVariables false
namespace Go.Proofs.Ytmcgjmpcfiefgaa
open Go Go.Proofs.Ytmcgjmpcfiefgaa.Pv

def tNext (L : List Int) (a : Nat) (n : Int) : Int := if L.length ≤ a ∨ n < 1 then 0 else (within (L.getD a 0) 0 1073741824).tmod n
def tStep (L : List Int) (a : Nat) (n : Int) : Nat := if L.length ≤ a ∨ n < 1 then a else a + 1
theorem tNext_lt (L : List Int) (a : Nat) {n : Int} (h : 1 ≤ n) : 0 ≤ tNext L a n ∧ tNext L a n < n := by
  unfold tNext
  split
  · omega
  · have := within_between (L.getD a 0) (lo := 0) (hi := 1073741824) (by decide)
    exact ⟨Int.tmod_nonneg _ this.1, Int.tmod_lt_of_pos _ (by omega)⟩
theorem tNext_le (L : List Int) (a : Nat) (n : Int) : 0 ≤ tNext L a n ∧ (tNext L a n < n ∨ tNext L a n = 0) := by
  by_cases h : 1 ≤ n
  · have := tNext_lt L a h; omega
  · unfold tNext; rw [if_pos (by omega)]; omega
theorem tStep_le (L : List Int) (a : Nat) (n : Int) : a ≤ tStep L a n ∧ tStep L a n ≤ a + 1 := by
  unfold tStep; split <;> omega
/-- So many numbers of a tape, each below n. -/
def tRow {α : Type} (f : Int → α) (n : Int) (L : List Int) (a : Nat) : Nat → List α × Nat
  | 0 => ([], a)
  | k + 1 => ((tRow f n L a k).1 ++ [f (tNext L (tRow f n L a k).2 n)], tStep L (tRow f n L a k).2 n)
theorem tRow_length {α : Type} (f : Int → α) (n : Int) (L : List Int) (a : Nat) : ∀ k, (tRow f n L a k).1.length = k
  | 0 => rfl
  | k + 1 => by simp [tRow, tRow_length f n L a k]
def fnsL : List Int := [1, 2, 3, 4, 5, 6, 8, 15, 16, 17, 22, 23]
def isOne (n : Int) : Bool := decide (n = 1)
/-- A request of a tape: its function f known, where it asks (w), from the place a on. -/
def tReqF (L : List Int) (f w : Int) (a : Nat) : TRequest × Nat :=
  if f = 1 ∨ f = 2 ∨ f = 3 ∨ f = 4 then (⟨f, w, tNext L a 26, 0, 0, [], [], 0, 0⟩, tStep L a 26)
  else if f = 5 then (⟨f, w, 0, 0, 0, [isOne (tNext L a 2)], [], 0, 0⟩, tStep L a 2)
  else if f = 6 then (⟨f, w, 0, 0, 0, [], [u16I (tNext L a 65536)], 0, 0⟩, tStep L a 65536)
  else if f = 8 then (⟨f, 0, 0, 0, ([0, 10, 11, 12, 13, 14, 2, 300] : List Int).getD (tNext L a 8).toNat 0, [], [([0, 0, 0, 777] : List UInt16).getD (tNext L (tStep L a 8) 4).toNat 0], 0, 0⟩, tStep L (tStep L a 8) 4)
  else if f = 15 then (⟨f, w, tNext L a 26, 0, 0, (tRow isOne 2 L (tStep L a 26) (tNext L a 26).toNat).1, [], 0, 0⟩, (tRow isOne 2 L (tStep L a 26) (tNext L a 26).toNat).2)
  else if f = 16 then (⟨f, w, tNext L a 26, 0, 0, [], (tRow u16I 65536 L (tStep L a 26) (tNext L a 26).toNat).1, 0, 0⟩, (tRow u16I 65536 L (tStep L a 26) (tNext L a 26).toNat).2)
  else if f = 22 then (⟨f, w, 0, 0, 0, [], [], u16I (tNext L a 65536), u16I (tNext L (tStep L a 65536) 65536)⟩, tStep L (tStep L a 65536) 65536)
  else if f = 23 then (⟨f, w, tNext L a 20, tNext L (tStep L a 20) 40, 0, [], (tRow u16I 65536 L (tStep L (tStep L (tStep L a 20) 40) 20) (tNext L (tStep L (tStep L a 20) 40) 20).toNat).1, 0, 0⟩, (tRow u16I 65536 L (tStep L (tStep L (tStep L a 20) 40) 20) (tNext L (tStep L (tStep L a 20) 40) 20).toNat).2)
  else (⟨f, 0, 0, 0, 0, [], [], 0, 0⟩, a)
def tFn (L : List Int) (a : Nat) : Int := fnsL.getD (tNext L a 12).toNat 0
def tReq (L : List Int) (a : Nat) : TRequest × Nat := tReqF L (tFn L a) (tNext L (tStep L a 12) 70) (tStep L (tStep L a 12) 70)
section
variable {L : List Int} {f w : Int} {a : Nat}
theorem tReqF_1 (h : f = 1 ∨ f = 2 ∨ f = 3 ∨ f = 4) : tReqF L f w a = (⟨f, w, tNext L a 26, 0, 0, [], [], 0, 0⟩, tStep L a 26) := by unfold tReqF; rw [if_pos h]
theorem tReqF_5 (h : f = 5) : tReqF L f w a = (⟨f, w, 0, 0, 0, [isOne (tNext L a 2)], [], 0, 0⟩, tStep L a 2) := by unfold tReqF; rw [if_neg (by omega), if_pos h]
theorem tReqF_6 (h : f = 6) : tReqF L f w a = (⟨f, w, 0, 0, 0, [], [u16I (tNext L a 65536)], 0, 0⟩, tStep L a 65536) := by unfold tReqF; rw [if_neg (by omega), if_neg (by omega), if_pos h]
theorem tReqF_8 (h : f = 8) : tReqF L f w a = (⟨f, 0, 0, 0, ([0, 10, 11, 12, 13, 14, 2, 300] : List Int).getD (tNext L a 8).toNat 0, [], [([0, 0, 0, 777] : List UInt16).getD (tNext L (tStep L a 8) 4).toNat 0], 0, 0⟩, tStep L (tStep L a 8) 4) := by
  unfold tReqF; rw [if_neg (by omega), if_neg (by omega), if_neg (by omega), if_pos h]
theorem tReqF_15 (h : f = 15) : tReqF L f w a = (⟨f, w, tNext L a 26, 0, 0, (tRow isOne 2 L (tStep L a 26) (tNext L a 26).toNat).1, [], 0, 0⟩, (tRow isOne 2 L (tStep L a 26) (tNext L a 26).toNat).2) := by
  unfold tReqF; rw [if_neg (by omega), if_neg (by omega), if_neg (by omega), if_neg (by omega), if_pos h]
theorem tReqF_16 (h : f = 16) : tReqF L f w a = (⟨f, w, tNext L a 26, 0, 0, [], (tRow u16I 65536 L (tStep L a 26) (tNext L a 26).toNat).1, 0, 0⟩, (tRow u16I 65536 L (tStep L a 26) (tNext L a 26).toNat).2) := by
  unfold tReqF; rw [if_neg (by omega), if_neg (by omega), if_neg (by omega), if_neg (by omega), if_neg (by omega), if_pos h]
theorem tReqF_22 (h : f = 22) : tReqF L f w a = (⟨f, w, 0, 0, 0, [], [], u16I (tNext L a 65536), u16I (tNext L (tStep L a 65536) 65536)⟩, tStep L (tStep L a 65536) 65536) := by
  unfold tReqF; rw [if_neg (by omega), if_neg (by omega), if_neg (by omega), if_neg (by omega), if_neg (by omega), if_neg (by omega), if_pos h]
theorem tReqF_23 (h : f = 23) : tReqF L f w a = (⟨f, w, tNext L a 20, tNext L (tStep L a 20) 40, 0, [], (tRow u16I 65536 L (tStep L (tStep L (tStep L a 20) 40) 20) (tNext L (tStep L (tStep L a 20) 40) 20).toNat).1, 0, 0⟩, (tRow u16I 65536 L (tStep L (tStep L (tStep L a 20) 40) 20) (tNext L (tStep L (tStep L a 20) 40) 20).toNat).2) := by
  unfold tReqF; rw [if_neg (by omega), if_neg (by omega), if_neg (by omega), if_neg (by omega), if_neg (by omega), if_neg (by omega), if_neg (by omega), if_pos h]
theorem tReqF_no (h : ¬ (f = 1 ∨ f = 2 ∨ f = 3 ∨ f = 4) ∧ f ≠ 5 ∧ f ≠ 6 ∧ f ≠ 8 ∧ f ≠ 15 ∧ f ≠ 16 ∧ f ≠ 22 ∧ f ≠ 23) : tReqF L f w a = (⟨f, 0, 0, 0, 0, [], [], 0, 0⟩, a) := by
  unfold tReqF; rw [if_neg (by omega), if_neg (by omega), if_neg (by omega), if_neg (by omega), if_neg (by omega), if_neg (by omega), if_neg (by omega), if_neg (by omega)]
theorem tReqF_fn : (tReqF L f w a).1.fn = f := by
  unfold tReqF; repeat' split
  all_goals rfl
theorem u16I_ofNat {x : Int} : (u16I x).toNat = (x % 65536).toNat := by
  simp only [u16I]
  rw [UInt16.toNat_ofNat']; omega
/-- What a tape makes may be. -/
theorem tReqF_right (hf : hasF f = true) (hw : 0 ≤ w ∧ w < 70) : rightR (tReqF L f w a).1 = 0 := by
  have h26 := tNext_lt L a (n := 26) (by decide)
  have h20 := tNext_lt L a (n := 20) (by decide)
  have h40 := tNext_lt L (tStep L a 20) (n := 40) (by decide)
  have h22 := tNext_lt L (tStep L (tStep L a 20) 40) (n := 20) (by decide)
  have h8 := tNext_lt L a (n := 8) (by decide)
  rw [shapeR_iff (by rw [tReqF_fn]; exact hf)]
  have hz : ([0, 10, 11, 12, 13, 14, 2, 300] : List Int).getD (tNext L a 8).toNat 0 ∈ ([0, 10, 11, 12, 13, 14, 2, 300] : List Int) := by
    rw [List.getD_eq_getElem?_getD, List.getElem?_eq_getElem (by simp; omega)]
    exact List.getElem_mem _
  have hz2 : 0 ≤ ([0, 10, 11, 12, 13, 14, 2, 300] : List Int).getD (tNext L a 8).toNat 0 ∧ ([0, 10, 11, 12, 13, 14, 2, 300] : List Int).getD (tNext L a 8).toNat 0 ≤ 300 := by
    revert hz
    generalize ([0, 10, 11, 12, 13, 14, 2, 300] : List Int).getD (tNext L a 8).toNat 0 = z
    intro hz
    simp only [List.mem_cons, List.not_mem_nil, or_false] at hz
    omega
  have r1 := tRow_length isOne 2 L (tStep L a 26) (tNext L a 26).toNat
  have r2 := tRow_length u16I 65536 L (tStep L a 26) (tNext L a 26).toNat
  have r3 := tRow_length u16I 65536 L (tStep L (tStep L (tStep L a 20) 40) 20) (tNext L (tStep L (tStep L a 20) 40) 20).toNat
  have z16 : (0 : UInt16).toNat = 0 := rfl
  have hc := hasF_of hf
  by_cases k1 : f = 1 ∨ f = 2 ∨ f = 3 ∨ f = 4
  · rw [tReqF_1 k1]
    constructor
    case bits => simp only; rw [if_neg (by omega), if_neg (by omega)]; rfl
    case vals => simp only; rw [if_neg (by omega), if_neg (by omega), if_neg (by omega)]; rfl
    all_goals first | (intro _; rfl) | (intro _; exact ⟨rfl, rfl⟩) | (simp only; omega)
  have hc2 : f = 5 ∨ f = 6 ∨ f = 8 ∨ f = 15 ∨ f = 16 ∨ f = 17 ∨ f = 22 ∨ f = 23 := by omega
  clear hc
  rcases hc2 with h | h | h | h | h | h | h | h
  · rw [tReqF_5 h]; subst h
    constructor
    case bits => rfl
    case vals => rfl
    all_goals first | (intro _; rfl) | (intro _; exact ⟨rfl, rfl⟩) | (simp only; omega) | (intro h; simp at h) | (intro h; exact absurd rfl h) | (simp; omega)
  · rw [tReqF_6 h]; subst h
    constructor
    case bits => rfl
    case vals => rfl
    all_goals first | (intro _; rfl) | (intro _; exact ⟨rfl, rfl⟩) | (simp only; omega) | (intro h; simp at h) | (intro h; exact absurd rfl h) | (simp; omega)
  · rw [tReqF_8 h]; subst h
    constructor
    case bits => rfl
    case vals => rfl
    all_goals first | (intro _; rfl) | (intro _; exact ⟨rfl, rfl⟩) | (simp only; omega) | (intro h; simp at h) | (intro h; exact absurd rfl h) | (simp; omega)
  · rw [tReqF_15 h]; subst h
    constructor
    case bits => simp only [r1]; exact ⟨by simp; omega, by omega⟩
    case vals => rfl
    all_goals first | (intro _; rfl) | (intro _; exact ⟨rfl, rfl⟩) | (simp only; omega) | (intro h; simp at h) | (intro h; exact absurd rfl h) | (simp; omega)
  · rw [tReqF_16 h]; subst h
    constructor
    case bits => rfl
    case vals => simp only [r2]; exact ⟨by simp; omega, by omega⟩
    all_goals first | (intro _; rfl) | (intro _; exact ⟨rfl, rfl⟩) | (simp only; omega) | (intro h; simp at h) | (intro h; exact absurd rfl h) | (simp; omega)
  · rw [tReqF_no (by omega)]; subst h
    constructor
    case bits => rfl
    case vals => rfl
    all_goals first | (intro _; rfl) | (intro _; exact ⟨rfl, rfl⟩) | (simp only; omega) | (intro h; simp at h) | (intro h; exact absurd rfl h) | (simp; omega)
  · rw [tReqF_22 h]; subst h
    constructor
    case bits => rfl
    case vals => rfl
    all_goals first | (intro _; rfl) | (intro _; exact ⟨rfl, rfl⟩) | (simp only; omega) | (intro h; simp at h) | (intro h; exact absurd rfl h) | (simp; omega)
  · rw [tReqF_23 h]; subst h
    constructor
    case bits => rfl
    case vals => simp only [r3]; show (tNext L (tStep L (tStep L a 20) 40) 20).toNat ≤ 127; omega
    all_goals first | (intro _; rfl) | (intro _; exact ⟨rfl, rfl⟩) | (simp only; omega) | (intro h; simp at h) | (intro h; exact absurd rfl h) | (simp; omega)
end
theorem fns_has {i : Nat} {f : Int} (h : fnsL[i]? = some f) : hasF f = true := by
  have hz := List.mem_of_getElem? h
  simp only [fnsL, List.mem_cons, List.not_mem_nil, or_false] at hz
  unfold hasF
  exact decide_eq_true (by omega)
theorem tFn_has (L : List Int) (a : Nat) : hasF (tFn L a) = true := by
  have h := tNext_lt L a (n := 12) (by decide)
  have hz : tFn L a ∈ fnsL := by
    unfold tFn
    rw [List.getD_eq_getElem?_getD, List.getElem?_eq_getElem (by simp [fnsL]; omega)]
    exact List.getElem_mem _
  revert hz
  generalize tFn L a = z
  intro hz
  simp only [fnsL, List.mem_cons, List.not_mem_nil, or_false] at hz
  unfold hasF
  exact decide_eq_true (by omega)
theorem tReq_right (L : List Int) (a : Nat) : rightR (tReq L a).1 = 0 := tReqF_right (tFn_has L a) (tNext_lt L _ (by decide))
end Go.Proofs.Ytmcgjmpcfiefgaa

/- What the functions of the octets compute, told plainly. -/
import Derived.Test.YtmcgjmpcfiefgaaSpecA
namespace Go.Proofs.Ytmcgjmpcfiefgaa
open Go Go.Proofs.Ytmcgjmpcfiefgaa.Pv

/-! ### Numbers -/
def put2 (n : Int) : List UInt8 := [u8I (n / 2 ^ 8), u8I n]
@[simp] theorem put2_length (n : Int) : (put2 n).length = 2 := rfl
theorem wrap_u64 (n : Int) : IntKind.u64.wrap n = n % 18446744073709551616 := by
  have e1 : IntKind.u64.signed = false := rfl
  have e2 : IntKind.u64.bits = 64 := rfl
  simp only [IntKind.wrap, e1, e2]
  rw [show (2:Int) ^ 64 = 18446744073709551616 from rfl]
  simp
theorem u8I_u64 (n : Int) : u8I (IntKind.u64.wrap n / 2 ^ 8) = u8I (n / 2 ^ 8) := by
  unfold u8I
  rw [wrap_u64]
  congr 2
  omega
theorem u8I_lt (n : Int) : (u8I n).toNat = (n % 256).toNat := by
  have := u8I_toNat n
  omega
def getN (b : List UInt8) (k : Nat) : Nat := (b.getD k 0).toNat * 256 + (b.getD (k + 1) 0).toNat
def getOk (b : List UInt8) (k : Int) : Bool := decide (0 ≤ k ∧ k + 2 ≤ b.length)
def getV (b : List UInt8) (k : Int) : Int := if getOk b k then getN b k.toNat else 0
theorem or_word (a b : Nat) (h : b < 256) : a * 2 ^ 8 ||| b = a * 256 + b := by
  rw [← Nat.shiftLeft_eq, ← Nat.shiftLeft_add_eq_or_of_lt (by simpa using h), Nat.shiftLeft_eq]
theorem getN_lt (b : List UInt8) (k : Nat) : getN b k < 65536 := by
  unfold getN
  have h1 := lt8 (b.getD k 0)
  have h2 := lt8 (b.getD (k + 1) 0)
  omega
theorem getN_of {b : List UInt8} {k : Nat} {x y : UInt8} (hx : b[k]? = some x) (hy : b[k + 1]? = some y) : getN b k = x.toNat * 256 + y.toNat := by
  simp [getN, List.getD_eq_getElem?_getD, hx, hy]

/-! ### Words -/
def w16 (x y : UInt8) : UInt16 := (x.toUInt16 <<< UInt16.ofNat 8) ||| y.toUInt16
theorem w16_nat (x y : UInt8) : (w16 x y).toNat = x.toNat * 256 + y.toNat := by
  have hx := lt8 x
  have hy := lt8 y
  unfold w16
  rw [UInt16.toNat_or, UInt16.toNat_shiftLeft]
  have h1 : (UInt16.ofNat 8).toNat % 16 = 8 := by decide
  have h2 : x.toUInt16.toNat = x.toNat := by simp
  have h3 : y.toUInt16.toNat = y.toNat := by simp
  rw [h1, h2, h3, Nat.shiftLeft_eq, Nat.mod_eq_of_lt (by omega), or_word _ _ hy]
theorem w16_of (x y : UInt8) : UInt16.ofNat (x.toNat * 256 + y.toNat) = w16 x y := by
  apply UInt16.toNat_inj.1
  rw [w16_nat]
  have hx := lt8 x
  have hy := lt8 y
  simp; omega
def wordsL : List UInt8 → List UInt16
  | x :: y :: t => w16 x y :: wordsL t
  | _ => []
def wordsOk (b : List UInt8) : Bool := decide (b.length % 2 = 0)
def wordsV (b : List UInt8) : List UInt16 := if wordsOk b then wordsL b else []
theorem wordsL_snoc : ∀ (l : List UInt8) (x y : UInt8), l.length % 2 = 0 → wordsL (l ++ [x, y]) = wordsL l ++ [w16 x y]
  | [], x, y, _ => rfl
  | [a], x, y, h => by simp at h
  | a :: b :: t, x, y, h => by
    have : wordsL (t ++ [x, y]) = wordsL t ++ [w16 x y] := wordsL_snoc t x y (by simp at h; omega)
    simp [wordsL, this]
theorem wordsL_take {b : List UInt8} {i : Nat} {x y : UInt8} (hi : i % 2 = 0) (hx : b[i]? = some x) (hy : b[i + 1]? = some y) : wordsL (b.take (i + 2)) = wordsL (b.take i) ++ [w16 x y] := by
  have hl := get_lt hx
  rw [show i + 2 = (i + 1) + 1 from rfl, List.take_add_one, List.take_add_one, hx, hy, List.append_assoc]
  exact wordsL_snoc _ x y (by simp; omega)
@[simp] theorem wordsL_length : ∀ (b : List UInt8), (wordsL b).length = b.length / 2
  | [] => rfl
  | [_] => by simp [wordsL]
  | a :: b :: t => by simp [wordsL, wordsL_length t]; omega
def bytesOf1 (w : UInt16) : List UInt8 := [(w >>> UInt16.ofNat 8).toUInt8, w.toUInt8]
def bytesL (l : List UInt16) : List UInt8 := l.flatMap bytesOf1
theorem bytesL_take {l : List UInt16} {i : Nat} {w : UInt16} (h : l[i]? = some w) : bytesL (l.take (i + 1)) = bytesL (l.take i) ++ [(w >>> UInt16.ofNat 8).toUInt8, w.toUInt8] := by
  rw [List.take_add_one, h]
  simp [bytesL, bytesOf1]
@[simp] theorem bytesL_length (l : List UInt16) : (bytesL l).length = 2 * l.length := by
  induction l with
  | nil => rfl
  | cons a t ih => simp [bytesL, bytesOf1] at ih ⊢; omega
theorem bytesL_append (a b : List UInt16) : bytesL (a ++ b) = bytesL a ++ bytesL b := by simp [bytesL]
theorem w16_back (w : UInt16) : w16 (w >>> UInt16.ofNat 8).toUInt8 w.toUInt8 = w := by
  apply UInt16.toNat_inj.1
  rw [w16_nat]
  have h := lt16 w
  have h1 : (w >>> UInt16.ofNat 8).toNat = w.toNat / 256 := by
    rw [UInt16.toNat_shiftRight, Nat.shiftRight_eq_div_pow]; rfl
  rw [UInt16.toNat_toUInt8, UInt16.toNat_toUInt8, h1]
  omega
theorem words_back : ∀ (l : List UInt16), wordsL (bytesL l) = l
  | [] => rfl
  | a :: t => by
    have := words_back t
    simp only [bytesL, List.flatMap_cons, bytesOf1, List.cons_append, List.nil_append, wordsL, w16_back] at this ⊢
    rw [this]
theorem wordsOk_back (l : List UInt16) : wordsOk (bytesL l) = true := by simp [wordsOk, bytesL_length]

/-! ### Bits -/
def bitB (x : UInt8) (t : Nat) : Bool := x.toBitVec.getLsbD t
theorem bit_get (x : UInt8) {t : Nat} (h : t < 8) : decide ((x >>> UInt8.ofNat t) &&& 1 = 1) = bitB x t := by
  have h0 : ((x >>> UInt8.ofNat t) &&& 1).toNat = x.toNat / 2 ^ t % 2 := by
    rw [UInt8.toNat_and, UInt8.toNat_shiftRight]
    have h1 : (UInt8.ofNat t).toNat % 8 = t := by simp; omega
    rw [h1, Nat.shiftRight_eq_div_pow]
    exact Nat.and_one_is_mod _
  have h2 : bitB x t = decide (x.toNat / 2 ^ t % 2 = 1) := by
    unfold bitB
    rw [← BitVec.testBit_toNat]
    exact Nat.testBit_eq_decide_div_mod_eq
  rw [h2]
  apply decide_eq_decide.2
  rw [← h0]
  constructor
  · intro e; rw [e]; rfl
  · intro e; exact UInt8.toNat_inj.1 e
theorem byte_ext {x y : UInt8} (h : ∀ k, k < 8 → bitB x k = bitB y k) : x = y := by
  apply UInt8.toBitVec_inj.1
  apply BitVec.eq_of_getLsbD_eq
  intro i hi
  exact h i hi
def mkByte (f : Nat → Bool) : UInt8 := ⟨BitVec.ofBoolListLE [f 0, f 1, f 2, f 3, f 4, f 5, f 6, f 7]⟩
theorem bit_mk (f : Nat → Bool) {k : Nat} (h : k < 8) : bitB (mkByte f) k = f k := by
  unfold bitB mkByte
  rw [BitVec.getLsbD_ofBoolListLE]
  match k, h with
  | 0, _ | 1, _ | 2, _ | 3, _ | 4, _ | 5, _ | 6, _ | 7, _ => rfl
theorem bit_or (x y : UInt8) (k : Nat) : bitB (x ||| y) k = (bitB x k || bitB y k) := by
  unfold bitB
  rw [UInt8.toBitVec_or, BitVec.getLsbD_or]
theorem bit_xor (x y : UInt8) (k : Nat) : bitB (x ^^^ y) k = (bitB x k ^^ bitB y k) := by
  unfold bitB
  rw [UInt8.toBitVec_xor, BitVec.getLsbD_xor]
theorem bit_one {t k : Nat} (ht : t < 8) (hk : k < 8) : bitB ((1 : UInt8) <<< UInt8.ofNat t) k = decide (k = t) := by
  match t, ht, k, hk with
  | 0, _, 0, _ | 0, _, 1, _ | 0, _, 2, _ | 0, _, 3, _ | 0, _, 4, _ | 0, _, 5, _ | 0, _, 6, _ | 0, _, 7, _
  | 1, _, 0, _ | 1, _, 1, _ | 1, _, 2, _ | 1, _, 3, _ | 1, _, 4, _ | 1, _, 5, _ | 1, _, 6, _ | 1, _, 7, _
  | 2, _, 0, _ | 2, _, 1, _ | 2, _, 2, _ | 2, _, 3, _ | 2, _, 4, _ | 2, _, 5, _ | 2, _, 6, _ | 2, _, 7, _
  | 3, _, 0, _ | 3, _, 1, _ | 3, _, 2, _ | 3, _, 3, _ | 3, _, 4, _ | 3, _, 5, _ | 3, _, 6, _ | 3, _, 7, _
  | 4, _, 0, _ | 4, _, 1, _ | 4, _, 2, _ | 4, _, 3, _ | 4, _, 4, _ | 4, _, 5, _ | 4, _, 6, _ | 4, _, 7, _
  | 5, _, 0, _ | 5, _, 1, _ | 5, _, 2, _ | 5, _, 3, _ | 5, _, 4, _ | 5, _, 5, _ | 5, _, 6, _ | 5, _, 7, _
  | 6, _, 0, _ | 6, _, 1, _ | 6, _, 2, _ | 6, _, 3, _ | 6, _, 4, _ | 6, _, 5, _ | 6, _, 6, _ | 6, _, 7, _
  | 7, _, 0, _ | 7, _, 1, _ | 7, _, 2, _ | 7, _, 3, _ | 7, _, 4, _ | 7, _, 5, _ | 7, _, 6, _ | 7, _, 7, _ => rfl
def packT (l : List Bool) (i : Nat) : List UInt8 := (List.range ((l.length + 7) / 8)).map fun j => mkByte fun k => decide (8 * j + k < i) && l.getD (8 * j + k) false
def packL (l : List Bool) : List UInt8 := (List.range ((l.length + 7) / 8)).map fun j => mkByte fun k => l.getD (8 * j + k) false
@[simp] theorem packT_length (l : List Bool) (i : Nat) : (packT l i).length = (l.length + 7) / 8 := by simp [packT]
@[simp] theorem packL_length (l : List Bool) : (packL l).length = (l.length + 7) / 8 := by simp [packL]
theorem map_congr_range {α : Type} {n : Nat} {f g : Nat → α} (h : ∀ j, j < n → f j = g j) : (List.range n).map f = (List.range n).map g := by
  apply List.map_congr_left
  intro j hj
  exact h j (List.mem_range.1 hj)
theorem mk_congr {f g : Nat → Bool} (h : ∀ k, k < 8 → f k = g k) : mkByte f = mkByte g := byte_ext fun k hk => by rw [bit_mk f hk, bit_mk g hk, h k hk]
theorem packT_zero (l : List Bool) : packT l 0 = List.replicate ((l.length + 7) / 8) 0 := by
  apply List.ext_getElem?
  intro j
  simp only [packT, List.getElem?_map, List.getElem?_replicate, List.getElem?_range]
  by_cases hj : j < (l.length + 7) / 8
  · simp only [hj, if_true, List.getElem?_range, Option.map_some]
    congr 1
    exact byte_ext fun k hk => by rw [bit_mk _ hk]; simp; match k, hk with
      | 0, _ | 1, _ | 2, _ | 3, _ | 4, _ | 5, _ | 6, _ | 7, _ => rfl
  · simp [hj]
theorem packT_end (l : List Bool) : packT l l.length = packL l := by
  apply map_congr_range
  intro j _
  apply mk_congr
  intro k _
  by_cases h : 8 * j + k < l.length
  · simp [h]
  · simp [h, List.getD_eq_getElem?_getD, List.getElem?_eq_none (Nat.le_of_not_lt h)]
theorem packT_no {l : List Bool} {i : Nat} (h : l[i]? = some false) : packT l (i + 1) = packT l i := by
  apply map_congr_range
  intro j _
  apply mk_congr
  intro k _
  by_cases e : 8 * j + k = i
  · rw [e]; simp [List.getD_eq_getElem?_getD, h]
  · have : (8 * j + k < i + 1) ↔ (8 * j + k < i) := by omega
    simp [this]
theorem packT_yes {l : List Bool} {i : Nat} {x : UInt8} (h : l[i]? = some true) (hx : (packT l i)[i / 8]? = some x) : (packT l i).set (i / 8) (x ||| ((1 : UInt8) <<< UInt8.ofNat (i % 8))) = packT l (i + 1) := by
  have hi := get_lt h
  have hm : i / 8 < (l.length + 7) / 8 := by omega
  apply List.ext_getElem?
  intro j
  rw [List.getElem?_set]
  by_cases e : i / 8 = j
  · subst e
    rw [if_pos rfl, if_pos (by rw [packT_length]; exact hm)]
    have hxe : x = mkByte fun k => decide (8 * (i / 8) + k < i) && l.getD (8 * (i / 8) + k) false := by
      simp only [packT, List.getElem?_map, List.getElem?_range hm, Option.map_some, Option.some.injEq] at hx
      exact hx.symm
    simp only [packT, List.getElem?_map, List.getElem?_range hm, Option.map_some, Option.some.injEq]
    refine byte_ext fun k hk => ?_
    rw [bit_or, bit_one (Nat.mod_lt _ (by omega)) hk, hxe, bit_mk _ hk, bit_mk _ hk]
    by_cases ek : k = i % 8
    · have : 8 * (i / 8) + k = i := by omega
      rw [this]; simp [ek, List.getD_eq_getElem?_getD, h]
    · have : (8 * (i / 8) + k < i + 1) ↔ (8 * (i / 8) + k < i) := by omega
      simp [ek, this]
  · rw [if_neg e]
    simp only [packT, List.getElem?_map]
    by_cases hj : j < (l.length + 7) / 8
    · simp only [List.getElem?_range hj, Option.map_some, Option.some.injEq]
      apply mk_congr
      intro k _
      have : (8 * j + k < i + 1) ↔ (8 * j + k < i) := by omega
      simp [this]
    · simp [hj]
def bitOf (b : List UInt8) (i : Nat) : Bool := bitB (b.getD (i / 8) 0) (i % 8)
def bopOk (b : List UInt8) (n : Int) : Bool := decide (0 ≤ n ∧ n ≤ 8 * b.length ∧ (n + 7) / 8 = b.length ∧ ∀ i, i < 8 * b.length → n.toNat ≤ i → bitOf b i = false)
def bopV (b : List UInt8) (n : Int) : List Bool := if bopOk b n then (List.range n.toNat).map (bitOf b) else []
theorem bopOk_no {b : List UInt8} {n : Int} (h : ¬ (0 ≤ n ∧ n ≤ 8 * b.length ∧ (n + 7) / 8 = b.length)) : bopOk b n = false := by
  unfold bopOk
  apply decide_eq_false
  rintro ⟨a, c, d, _⟩
  exact h ⟨a, c, d⟩
theorem bitOf_of {b : List UInt8} {i : Nat} {x : UInt8} (h : b[i / 8]? = some x) : bitOf b i = decide ((x >>> UInt8.ofNat (i % 8)) &&& 1 = 1) := by
  rw [bit_get x (Nat.mod_lt _ (by omega))]
  simp [bitOf, List.getD_eq_getElem?_getD, h]
def openT (b : List UInt8) (n i : Nat) : List Bool := (List.range n).map fun j => decide (j < i) && bitOf b j
@[simp] theorem openT_length (b : List UInt8) (n i : Nat) : (openT b n i).length = n := by simp [openT]
theorem openT_zero (b : List UInt8) (n : Nat) : openT b n 0 = List.replicate n false := by
  apply List.ext_getElem?
  intro j
  simp only [openT, List.getElem?_map, List.getElem?_replicate]
  by_cases hj : j < n
  · simp [hj]
  · simp [hj]
theorem openT_set (b : List UInt8) {n i : Nat} : (openT b n i).set i (bitOf b i) = openT b n (i + 1) := by
  apply List.ext_getElem?
  intro j
  rw [List.getElem?_set]
  by_cases e : i = j
  · subst e
    rw [if_pos rfl, openT_length]
    by_cases hj : i < n
    · simp [openT, hj]
    · simp [openT, hj]
  · rw [if_neg e]
    simp only [openT, List.getElem?_map]
    by_cases hj : j < n
    · have : (j < i + 1) ↔ (j < i) := by omega
      simp [hj, this]
    · simp [hj]
theorem openT_end (b : List UInt8) (n : Nat) : openT b n n = (List.range n).map (bitOf b) := by
  apply map_congr_range
  intro j hj
  simp [hj]
theorem getD_map_range {n i : Nat} (f : Nat → Bool) : ((List.range n).map f).getD i false = (decide (i < n) && f i) := by
  by_cases h : i < n <;> simp [List.getD_eq_getElem?_getD, h]
theorem pack_bits {b : List UInt8} {n : Nat} (h : (n + 7) / 8 = b.length) : packL ((List.range n).map (bitOf b)) = b ↔ ∀ i, i < 8 * b.length → n ≤ i → bitOf b i = false := by
  have hlen : ((List.range n).map (bitOf b)).length = n := by simp
  constructor
  · intro e i hi hn
    have hj : i / 8 < b.length := by omega
    have e2 := congrArg (fun z => z[i / 8]?) e
    simp only [packL, hlen, h, List.getElem?_map, List.getElem?_range hj, Option.map_some] at e2
    have hb : b.getD (i / 8) 0 = mkByte fun k => ((List.range n).map (bitOf b)).getD (8 * (i / 8) + k) false := by
      simp [List.getD_eq_getElem?_getD, ← e2]
    unfold bitOf
    rw [hb, bit_mk _ (Nat.mod_lt _ (by omega)), getD_map_range]
    simp; omega
  · intro hz
    apply List.ext_getElem?
    intro j
    simp only [packL, hlen, h, List.getElem?_map]
    by_cases hj : j < b.length
    · rw [List.getElem?_range hj, Option.map_some, List.getElem?_eq_getElem hj]
      congr 1
      refine byte_ext fun k hk => ?_
      rw [bit_mk _ hk, getD_map_range]
      have hq : (8 * j + k) / 8 = j := by omega
      have hr : (8 * j + k) % 8 = k := by omega
      have hbo : bitOf b (8 * j + k) = bitB b[j] k := by simp [bitOf, hq, hr, List.getD_eq_getElem?_getD, hj]
      by_cases hn : 8 * j + k < n
      · simp [hn, hbo]
      · have := hz (8 * j + k) (by omega) (by omega)
        rw [hbo] at this
        simp [hn, this]
    · simp [hj]
theorem bopOk_nat {b : List UInt8} {n : Nat} (h : n ≤ 8 * b.length ∧ (n + 7) / 8 = b.length) : bopOk b (n : Int) = decide (∀ i, i < 8 * b.length → n ≤ i → bitOf b i = false) := by
  unfold bopOk
  apply decide_eq_decide.2
  rw [Int.toNat_natCast]
  constructor
  · rintro ⟨_, _, _, h4⟩; exact h4
  · intro h4; exact ⟨by omega, by omega, by omega, h4⟩
theorem bopV_nat {b : List UInt8} {n : Nat} (h : bopOk b (n : Int) = true) : bopV b (n : Int) = (List.range n).map (bitOf b) := by rw [bopV, if_pos h, Int.toNat_natCast]
theorem bits_snoc (b : List UInt8) (i : Nat) : (List.range (i + 1)).map (bitOf b) = (List.range i).map (bitOf b) ++ [bitOf b i] := by rw [List.range_succ, List.map_append]; rfl
theorem open_pack (l : List Bool) : bopOk (packL l) (l.length : Int) = true ∧ bopV (packL l) (l.length : Int) = l := by
  have hb : ∀ i, i < 8 * (packL l).length → bitOf (packL l) i = l.getD i false := by
    intro i hi
    rw [packL_length] at hi
    have hj : i / 8 < (l.length + 7) / 8 := by omega
    have : (packL l).getD (i / 8) 0 = mkByte fun k => l.getD (8 * (i / 8) + k) false := by simp [packL, List.getD_eq_getElem?_getD, List.getElem?_range hj]
    unfold bitOf
    rw [this, bit_mk _ (Nat.mod_lt _ (by omega))]
    congr 1
    omega
  have hok : bopOk (packL l) (l.length : Int) = true := by
    rw [bopOk_nat (by rw [packL_length]; omega)]
    apply decide_eq_true
    intro i hi hn
    rw [hb i hi]
    simp [List.getD_eq_getElem?_getD, List.getElem?_eq_none hn]
  refine ⟨hok, ?_⟩
  rw [bopV_nat hok]
  apply List.ext_getElem?
  intro i
  by_cases hi : i < l.length
  · rw [List.getElem?_map, List.getElem?_range hi, Option.map_some, hb i (by rw [packL_length]; omega)]
    simp [List.getD_eq_getElem?_getD, hi]
  · simp [hi]
theorem put_get (b : List UInt8) (n : Int) : getOk (b ++ put2 n) (b.length : Int) = true ∧ getV (b ++ put2 n) (b.length : Int) = ((n % 2 ^ 16).toNat : Int) := by
  have ho : getOk (b ++ put2 n) (b.length : Int) = true := by
    unfold getOk
    apply decide_eq_true
    simp [put2] <;> omega
  refine ⟨ho, ?_⟩
  rw [getV, if_pos ho, Int.toNat_natCast, getN_of (x := u8I (n / 2 ^ 8)) (y := u8I n) (by simp [put2]) (by simp [put2])]
  have h1 := u8I_lt (n / 2 ^ 8)
  have h2 := u8I_lt n
  rw [h1, h2]
  omega
theorem wordsV_back (l : List UInt16) : wordsOk (bytesL l) = true ∧ wordsV (bytesL l) = l := by
  have h := wordsOk_back l
  exact ⟨h, by rw [wordsV, if_pos h, words_back]⟩
theorem pack_turn {l : List Bool} {kk i : Nat} {v : Bool} {x y : UInt8} (hv : l[kk]? = some v) (hx : (packL l)[i]? = some x) (hy : (packL (l.set kk (!v)))[i]? = some y) : x ^^^ y = if i = kk / 8 then (1 : UInt8) <<< UInt8.ofNat (kk % 8) else 0 := by
  have hk := get_lt hv
  have hi : i < (l.length + 7) / 8 := by have := get_lt hx; rwa [packL_length] at this
  have ex : x = mkByte fun k => l.getD (8 * i + k) false := by
    simp only [packL, List.getElem?_map, List.getElem?_range hi, Option.map_some, Option.some.injEq] at hx
    exact hx.symm
  have ey : y = mkByte fun k => (l.set kk (!v)).getD (8 * i + k) false := by
    simp only [packL, List.length_set, List.getElem?_map, List.getElem?_range hi, Option.map_some, Option.some.injEq] at hy
    exact hy.symm
  refine byte_ext fun k hk8 => ?_
  have hb : ∀ j, (l.getD j false ^^ (l.set kk (!v)).getD j false) = decide (j = kk) := by
    intro j
    by_cases e : kk = j
    · subst e
      have := (List.getElem?_eq_some_iff.1 hv).2
      simp [List.getD_eq_getElem?_getD, hk, this]
    · have e2 : ¬ j = kk := fun h => e h.symm
      simp [List.getD_eq_getElem?_getD, List.getElem?_set_ne e, e2]
  rw [bit_xor, ex, ey, bit_mk _ hk8, bit_mk _ hk8, hb]
  by_cases e : i = kk / 8
  · rw [if_pos e, bit_one (Nat.mod_lt _ (by omega)) hk8]
    apply decide_eq_decide.2
    omega
  · rw [if_neg e]
    have h0 : bitB 0 k = false := by simp [bitB]
    rw [h0]
    apply decide_eq_false
    omega
end Go.Proofs.Ytmcgjmpcfiefgaa

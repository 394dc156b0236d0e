/- What the law PduTells needs, and no more: merged out of texts of this session by a program of it (wip/tools/prune.py). -/
import Derived.Test.YtigpfkcjpjhflaaQPduTells1
namespace Go.Proofs.Ytigpfkcjpjhflaa
open Go Go.Proofs.Ytigpfkcjpjhflaa.Pv
def put2 (n : Int) : List UInt8 := [u8I (n / 2 ^ 8),u8I n]
@[simp] theorem put2_length (n : Int) : (put2 n).length = 2 := rfl
theorem wrap_u64 (n : Int) : IntKind.u64.wrap n = n % 18446744073709551616 := by
  have e1 : IntKind.u64.signed = false := rfl
  have e2 : IntKind.u64.bits = 64 := rfl
  simp only [IntKind.wrap,e1,e2]
  rw [show (2:Int) ^ 64 = 18446744073709551616 from rfl]
  simp
theorem u8I_u64 (n : Int) : u8I (IntKind.u64.wrap n / 2 ^ 8) = u8I (n / 2 ^ 8) := by
  unfold u8I
  rw [wrap_u64]
  congr 2
  omega
theorem u8I_lt (n : Int) : (u8I n).toNat = (n % 256).toNat := by
  have := u8I_toNat n
  omega
def getN (b : List UInt8) (k : Nat) : Nat := (b.getD k 0).toNat * 256 + (b.getD (k + 1) 0).toNat
def getOk (b : List UInt8) (k : Int) : Bool := decide (0 ≤ k ∧ k + 2 ≤ b.length)
def getV (b : List UInt8) (k : Int) : Int := if getOk b k then getN b k.toNat else 0
theorem or_word (a b : Nat) (h : b < 256) : a * 2 ^ 8 ||| b = a * 256 + b := by
  rw [← Nat.shiftLeft_eq,← Nat.shiftLeft_add_eq_or_of_lt (by simpa using h),Nat.shiftLeft_eq]
theorem getN_lt (b : List UInt8) (k : Nat) : getN b k < 65536 := by
  unfold getN
  have h1 := lt8 (b.getD k 0)
  have h2 := lt8 (b.getD (k + 1) 0)
  omega
theorem getN_of {b : List UInt8} {k : Nat} {x y : UInt8} (hx : b[k]? = some x) (hy : b[k + 1]? = some y) : getN b k = x.toNat * 256 + y.toNat := by
  simp [getN,List.getD_eq_getElem?_getD,hx,hy]
def w16 (x y : UInt8) : UInt16 := (x.toUInt16 <<< UInt16.ofNat 8) ||| y.toUInt16
theorem w16_nat (x y : UInt8) : (w16 x y).toNat = x.toNat * 256 + y.toNat := by
  have hx := lt8 x
  have hy := lt8 y
  unfold w16
  rw [UInt16.toNat_or,UInt16.toNat_shiftLeft]
  have h1 : (UInt16.ofNat 8).toNat % 16 = 8 := by decide
  have h2 : x.toUInt16.toNat = x.toNat := by simp
  have h3 : y.toUInt16.toNat = y.toNat := by simp
  rw [h1,h2,h3,Nat.shiftLeft_eq,Nat.mod_eq_of_lt (by omega),or_word _ _ hy]
theorem w16_of (x y : UInt8) : UInt16.ofNat (x.toNat * 256 + y.toNat) = w16 x y := by
  apply UInt16.toNat_inj.1
  rw [w16_nat]
  have hx := lt8 x
  have hy := lt8 y
  simp; omega
def wordsL : List UInt8 → List UInt16
  | x :: y :: t => w16 x y :: wordsL t
  | _ => []
def wordsOk (b : List UInt8) : Bool := decide (b.length % 2 = 0)
def wordsV (b : List UInt8) : List UInt16 := if wordsOk b then wordsL b else []
theorem wordsL_snoc : ∀ (l : List UInt8) (x y : UInt8),l.length % 2 = 0 → wordsL (l ++ [x,y]) = wordsL l ++ [w16 x y]
  | [],x,y,_ => rfl
  | [a],x,y,h => by simp at h
  | a :: b :: t,x,y,h => by
    have : wordsL (t ++ [x,y]) = wordsL t ++ [w16 x y] := wordsL_snoc t x y (by simp at h; omega)
    simp [wordsL,this]
theorem wordsL_take {b : List UInt8} {i : Nat} {x y : UInt8} (hi : i % 2 = 0) (hx : b[i]? = some x) (hy : b[i + 1]? = some y) : wordsL (b.take (i + 2)) = wordsL (b.take i) ++ [w16 x y] := by
  have hl := get_lt hx
  rw [show i + 2 = (i + 1) + 1 from rfl,List.take_add_one,List.take_add_one,hx,hy,List.append_assoc]
  exact wordsL_snoc _ x y (by simp; omega)
@[simp] theorem wordsL_length : ∀ (b : List UInt8),(wordsL b).length = b.length / 2
  | [] => rfl
  | [_] => by simp [wordsL]
  | a :: b :: t => by simp [wordsL,wordsL_length t]; omega
def bytesOf1 (w : UInt16) : List UInt8 := [(w >>> UInt16.ofNat 8).toUInt8,w.toUInt8]
def bytesL (l : List UInt16) : List UInt8 := l.flatMap bytesOf1
theorem bytesL_take {l : List UInt16} {i : Nat} {w : UInt16} (h : l[i]? = some w) : bytesL (l.take (i + 1)) = bytesL (l.take i) ++ [(w >>> UInt16.ofNat 8).toUInt8,w.toUInt8] := by
  rw [List.take_add_one,h]
  simp [bytesL,bytesOf1]
@[simp] theorem bytesL_length (l : List UInt16) : (bytesL l).length = 2 * l.length := by
  induction l with
  | nil => rfl
  | cons a t ih => simp [bytesL,bytesOf1] at ih ⊢; omega
theorem w16_back (w : UInt16) : w16 (w >>> UInt16.ofNat 8).toUInt8 w.toUInt8 = w := by
  apply UInt16.toNat_inj.1
  rw [w16_nat]
  have h := lt16 w
  have h1 : (w >>> UInt16.ofNat 8).toNat = w.toNat / 256 := by
    rw [UInt16.toNat_shiftRight,Nat.shiftRight_eq_div_pow]; rfl
  rw [UInt16.toNat_toUInt8,UInt16.toNat_toUInt8,h1]
  omega
theorem words_back : ∀ (l : List UInt16),wordsL (bytesL l) = l
  | [] => rfl
  | a :: t => by
    have := words_back t
    simp only [bytesL,List.flatMap_cons,bytesOf1,List.cons_append,List.nil_append,wordsL,w16_back] at this ⊢
    rw [this]
theorem wordsOk_back (l : List UInt16) : wordsOk (bytesL l) = true := by simp [wordsOk,bytesL_length]
def bitB (x : UInt8) (t : Nat) : Bool := x.toBitVec.getLsbD t
theorem bit_get (x : UInt8) {t : Nat} (h : t < 8) : decide ((x >>> UInt8.ofNat t) &&& 1 = 1) = bitB x t := by
  have h0 : ((x >>> UInt8.ofNat t) &&& 1).toNat = x.toNat / 2 ^ t % 2 := by
    rw [UInt8.toNat_and,UInt8.toNat_shiftRight]
    have h1 : (UInt8.ofNat t).toNat % 8 = t := by simp; omega
    rw [h1,Nat.shiftRight_eq_div_pow]
    exact Nat.and_one_is_mod _
  have h2 : bitB x t = decide (x.toNat / 2 ^ t % 2 = 1) := by
    unfold bitB
    rw [← BitVec.testBit_toNat]
    exact Nat.testBit_eq_decide_div_mod_eq
  rw [h2]
  apply decide_eq_decide.2
  rw [← h0]
  constructor
  · intro e; rw [e]; rfl
  · intro e; exact UInt8.toNat_inj.1 e
theorem byte_ext {x y : UInt8} (h : ∀ k,k < 8 → bitB x k = bitB y k) : x = y := by
  apply UInt8.toBitVec_inj.1
  apply BitVec.eq_of_getLsbD_eq
  intro i hi
  exact h i hi
def mkByte (f : Nat → Bool) : UInt8 := ⟨BitVec.ofBoolListLE [f 0,f 1,f 2,f 3,f 4,f 5,f 6,f 7]⟩
theorem bit_mk (f : Nat → Bool) {k : Nat} (h : k < 8) : bitB (mkByte f) k = f k := by
  unfold bitB mkByte
  rw [BitVec.getLsbD_ofBoolListLE]
  match k,h with
  | 0,_|1,_|2,_|3,_|4,_|5,_|6,_|7,_ => rfl
theorem bit_or (x y : UInt8) (k : Nat) : bitB (x ||| y) k = (bitB x k || bitB y k) := by
  unfold bitB
  rw [UInt8.toBitVec_or,BitVec.getLsbD_or]
theorem bit_one {t k : Nat} (ht : t < 8) (hk : k < 8) : bitB ((1 : UInt8) <<< UInt8.ofNat t) k = decide (k = t) := by
  match t,ht,k,hk with
  | 0,_,0,_|0,_,1,_|0,_,2,_|0,_,3,_|0,_,4,_|0,_,5,_|0,_,6,_|0,_,7,_
  | 1,_,0,_|1,_,1,_|1,_,2,_|1,_,3,_|1,_,4,_|1,_,5,_|1,_,6,_|1,_,7,_
  | 2,_,0,_|2,_,1,_|2,_,2,_|2,_,3,_|2,_,4,_|2,_,5,_|2,_,6,_|2,_,7,_
  | 3,_,0,_|3,_,1,_|3,_,2,_|3,_,3,_|3,_,4,_|3,_,5,_|3,_,6,_|3,_,7,_
  | 4,_,0,_|4,_,1,_|4,_,2,_|4,_,3,_|4,_,4,_|4,_,5,_|4,_,6,_|4,_,7,_
  | 5,_,0,_|5,_,1,_|5,_,2,_|5,_,3,_|5,_,4,_|5,_,5,_|5,_,6,_|5,_,7,_
  | 6,_,0,_|6,_,1,_|6,_,2,_|6,_,3,_|6,_,4,_|6,_,5,_|6,_,6,_|6,_,7,_
  | 7,_,0,_|7,_,1,_|7,_,2,_|7,_,3,_|7,_,4,_|7,_,5,_|7,_,6,_|7,_,7,_ => rfl
def packT (l : List Bool) (i : Nat) : List UInt8 := (List.range ((l.length + 7) / 8)).map fun j => mkByte fun k => decide (8 * j + k < i) && l.getD (8 * j + k) false
def packL (l : List Bool) : List UInt8 := (List.range ((l.length + 7) / 8)).map fun j => mkByte fun k => l.getD (8 * j + k) false
@[simp] theorem packT_length (l : List Bool) (i : Nat) : (packT l i).length = (l.length + 7) / 8 := by simp [packT]
@[simp] theorem packL_length (l : List Bool) : (packL l).length = (l.length + 7) / 8 := by simp [packL]
theorem map_congr_range {α : Type} {n : Nat} {f g : Nat → α} (h : ∀ j,j < n → f j = g j) : (List.range n).map f = (List.range n).map g := by
  apply List.map_congr_left
  intro j hj
  exact h j (List.mem_range.1 hj)
theorem mk_congr {f g : Nat → Bool} (h : ∀ k,k < 8 → f k = g k) : mkByte f = mkByte g := byte_ext fun k hk => by rw [bit_mk f hk,bit_mk g hk,h k hk]
theorem packT_zero (l : List Bool) : packT l 0 = List.replicate ((l.length + 7) / 8) 0 := by
  apply List.ext_getElem?
  intro j
  simp only [packT,List.getElem?_map,List.getElem?_replicate,List.getElem?_range]
  by_cases hj : j < (l.length + 7) / 8
  · simp only [hj,if_true,List.getElem?_range,Option.map_some]
    congr 1
    exact byte_ext fun k hk => by rw [bit_mk _ hk]; simp; match k,hk with
      | 0,_|1,_|2,_|3,_|4,_|5,_|6,_|7,_ => rfl
  · simp [hj]
theorem packT_end (l : List Bool) : packT l l.length = packL l := by
  apply map_congr_range
  intro j _
  apply mk_congr
  intro k _
  by_cases h : 8 * j + k < l.length
  · simp [h]
  · simp [h,List.getD_eq_getElem?_getD,List.getElem?_eq_none (Nat.le_of_not_lt h)]
theorem packT_no {l : List Bool} {i : Nat} (h : l[i]? = some false) : packT l (i + 1) = packT l i := by
  apply map_congr_range
  intro j _
  apply mk_congr
  intro k _
  by_cases e : 8 * j + k = i
  · rw [e]; simp [List.getD_eq_getElem?_getD,h]
  · have : (8 * j + k < i + 1) ↔ (8 * j + k < i) := by omega
    simp [this]
theorem packT_yes {l : List Bool} {i : Nat} {x : UInt8} (h : l[i]? = some true) (hx : (packT l i)[i / 8]? = some x) : (packT l i).set (i / 8) (x ||| ((1 : UInt8) <<< UInt8.ofNat (i % 8))) = packT l (i + 1) := by
  have hi := get_lt h
  have hm : i / 8 < (l.length + 7) / 8 := by omega
  apply List.ext_getElem?
  intro j
  rw [List.getElem?_set]
  by_cases e : i / 8 = j
  · subst e
    rw [if_pos rfl,if_pos (by rw [packT_length]; exact hm)]
    have hxe : x = mkByte fun k => decide (8 * (i / 8) + k < i) && l.getD (8 * (i / 8) + k) false := by
      simp only [packT,List.getElem?_map,List.getElem?_range hm,Option.map_some,Option.some.injEq] at hx
      exact hx.symm
    simp only [packT,List.getElem?_map,List.getElem?_range hm,Option.map_some,Option.some.injEq]
    refine byte_ext fun k hk => ?_
    rw [bit_or,bit_one (Nat.mod_lt _ (by omega)) hk,hxe,bit_mk _ hk,bit_mk _ hk]
    by_cases ek : k = i % 8
    · have : 8 * (i / 8) + k = i := by omega
      rw [this]; simp [ek,List.getD_eq_getElem?_getD,h]
    · have : (8 * (i / 8) + k < i + 1) ↔ (8 * (i / 8) + k < i) := by omega
      simp [ek,this]
  · rw [if_neg e]
    simp only [packT,List.getElem?_map]
    by_cases hj : j < (l.length + 7) / 8
    · simp only [List.getElem?_range hj,Option.map_some,Option.some.injEq]
      apply mk_congr
      intro k _
      have : (8 * j + k < i + 1) ↔ (8 * j + k < i) := by omega
      simp [this]
    · simp [hj]
def bitOf (b : List UInt8) (i : Nat) : Bool := bitB (b.getD (i / 8) 0) (i % 8)
def bopOk (b : List UInt8) (n : Int) : Bool := decide (0 ≤ n ∧ n ≤ 8 * b.length ∧ (n + 7) / 8 = b.length ∧ ∀ i,i < 8 * b.length → n.toNat ≤ i → bitOf b i = false)
def bopV (b : List UInt8) (n : Int) : List Bool := if bopOk b n then (List.range n.toNat).map (bitOf b) else []
theorem bopOk_no {b : List UInt8} {n : Int} (h : ¬ (0 ≤ n ∧ n ≤ 8 * b.length ∧ (n + 7) / 8 = b.length)) : bopOk b n = false := by
  unfold bopOk
  apply decide_eq_false
  rintro ⟨a,c,d,_⟩
  exact h ⟨a,c,d⟩
theorem bitOf_of {b : List UInt8} {i : Nat} {x : UInt8} (h : b[i / 8]? = some x) : bitOf b i = decide ((x >>> UInt8.ofNat (i % 8)) &&& 1 = 1) := by
  rw [bit_get x (Nat.mod_lt _ (by omega))]
  simp [bitOf,List.getD_eq_getElem?_getD,h]
def openT (b : List UInt8) (n i : Nat) : List Bool := (List.range n).map fun j => decide (j < i) && bitOf b j
@[simp] theorem openT_length (b : List UInt8) (n i : Nat) : (openT b n i).length = n := by simp [openT]
theorem openT_zero (b : List UInt8) (n : Nat) : openT b n 0 = List.replicate n false := by
  apply List.ext_getElem?
  intro j
  simp only [openT,List.getElem?_map,List.getElem?_replicate]
  by_cases hj : j < n
  · simp [hj]
  · simp [hj]
theorem openT_set (b : List UInt8) {n i : Nat} : (openT b n i).set i (bitOf b i) = openT b n (i + 1) := by
  apply List.ext_getElem?
  intro j
  rw [List.getElem?_set]
  by_cases e : i = j
  · subst e
    rw [if_pos rfl,openT_length]
    by_cases hj : i < n
    · simp [openT,hj]
    · simp [openT,hj]
  · rw [if_neg e]
    simp only [openT,List.getElem?_map]
    by_cases hj : j < n
    · have : (j < i + 1) ↔ (j < i) := by omega
      simp [hj,this]
    · simp [hj]
theorem openT_end (b : List UInt8) (n : Nat) : openT b n n = (List.range n).map (bitOf b) := by
  apply map_congr_range
  intro j hj
  simp [hj]
theorem getD_map_range {n i : Nat} (f : Nat → Bool) : ((List.range n).map f).getD i false = (decide (i < n) && f i) := by
  by_cases h : i < n <;> simp [List.getD_eq_getElem?_getD,h]
theorem pack_bits {b : List UInt8} {n : Nat} (h : (n + 7) / 8 = b.length) : packL ((List.range n).map (bitOf b)) = b ↔ ∀ i,i < 8 * b.length → n ≤ i → bitOf b i = false := by
  have hlen : ((List.range n).map (bitOf b)).length = n := by simp
  constructor
  · intro e i hi hn
    have hj : i / 8 < b.length := by omega
    have e2 := congrArg (fun z => z[i / 8]?) e
    simp only [packL,hlen,h,List.getElem?_map,List.getElem?_range hj,Option.map_some] at e2
    have hb : b.getD (i / 8) 0 = mkByte fun k => ((List.range n).map (bitOf b)).getD (8 * (i / 8) + k) false := by
      simp [List.getD_eq_getElem?_getD,← e2]
    unfold bitOf
    rw [hb,bit_mk _ (Nat.mod_lt _ (by omega)),getD_map_range]
    simp; omega
  · intro hz
    apply List.ext_getElem?
    intro j
    simp only [packL,hlen,h,List.getElem?_map]
    by_cases hj : j < b.length
    · rw [List.getElem?_range hj,Option.map_some,List.getElem?_eq_getElem hj]
      congr 1
      refine byte_ext fun k hk => ?_
      rw [bit_mk _ hk,getD_map_range]
      have hq : (8 * j + k) / 8 = j := by omega
      have hr : (8 * j + k) % 8 = k := by omega
      have hbo : bitOf b (8 * j + k) = bitB b[j] k := by simp [bitOf,hq,hr,List.getD_eq_getElem?_getD,hj]
      by_cases hn : 8 * j + k < n
      · simp [hn,hbo]
      · have := hz (8 * j + k) (by omega) (by omega)
        rw [hbo] at this
        simp [hn,this]
    · simp [hj]
theorem bopOk_nat {b : List UInt8} {n : Nat} (h : n ≤ 8 * b.length ∧ (n + 7) / 8 = b.length) : bopOk b (n : Int) = decide (∀ i,i < 8 * b.length → n ≤ i → bitOf b i = false) := by
  unfold bopOk
  apply decide_eq_decide.2
  rw [Int.toNat_natCast]
  constructor
  · rintro ⟨_,_,_,h4⟩; exact h4
  · intro h4; exact ⟨by omega,by omega,by omega,h4⟩
theorem bopV_nat {b : List UInt8} {n : Nat} (h : bopOk b (n : Int) = true) : bopV b (n : Int) = (List.range n).map (bitOf b) := by rw [bopV,if_pos h,Int.toNat_natCast]
theorem bits_snoc (b : List UInt8) (i : Nat) : (List.range (i + 1)).map (bitOf b) = (List.range i).map (bitOf b) ++ [bitOf b i] := by rw [List.range_succ,List.map_append]; rfl
theorem open_pack (l : List Bool) : bopOk (packL l) (l.length : Int) = true ∧ bopV (packL l) (l.length : Int) = l := by
  have hb : ∀ i,i < 8 * (packL l).length → bitOf (packL l) i = l.getD i false := by
    intro i hi
    rw [packL_length] at hi
    have hj : i / 8 < (l.length + 7) / 8 := by omega
    have : (packL l).getD (i / 8) 0 = mkByte fun k => l.getD (8 * (i / 8) + k) false := by simp [packL,List.getD_eq_getElem?_getD,List.getElem?_range hj]
    unfold bitOf
    rw [this,bit_mk _ (Nat.mod_lt _ (by omega))]
    congr 1
    omega
  have hok : bopOk (packL l) (l.length : Int) = true := by
    rw [bopOk_nat (by rw [packL_length]; omega)]
    apply decide_eq_true
    intro i hi hn
    rw [hb i hi]
    simp [List.getD_eq_getElem?_getD,List.getElem?_eq_none hn]
  refine ⟨hok, ?_⟩
  rw [bopV_nat hok]
  apply List.ext_getElem?
  intro i
  by_cases hi : i < l.length
  · rw [List.getElem?_map,List.getElem?_range hi,Option.map_some,hb i (by rw [packL_length]; omega)]
    simp [List.getD_eq_getElem?_getD,hi]
  · simp [hi]
theorem wordsV_back (l : List UInt16) : wordsOk (bytesL l) = true ∧ wordsV (bytesL l) = l := by
  have h := wordsOk_back l
  exact ⟨h,by rw [wordsV,if_pos h,words_back]⟩
end Go.Proofs.Ytigpfkcjpjhflaa
set_option linter.unusedVariables false
set_option linter.unusedSimpArgs false
set_option maxRecDepth 10000
set_option maxHeartbeats 1000000
namespace Go.Proofs.Ytigpfkcjpjhflaa
open Go Go.Proofs.Ytigpfkcjpjhflaa.Pv
theorem w_octet_Put (b : List UInt8) (cl_b : Bool) (n : Int) (hb : b.length ≤ 140737488351232) :
    T Try.prog 37 [pS 1 cl_b enc8 b,pI n] 0 [] (Ret (PV.ref 0 0 none) 1 [(0,oB true 1 enc8 (b ++ put2 n))]) := by
 refine t_fun tabOk (n := 14) (rs := [.tmp 4]) Try.func37 rfl rfl rfl rfl (Nat.le_of_ble_eq_true rfl) ?_
 intro c hnt hk
 refine w_seq ?_
 refine w_R ?_
 refine qa hnt rfl rfl ?_
 refine r_end ?_
 refine q_then ?_
 refine w_seq ?_
 refine w_R ?_
 refine qm hnt rfl rfl ?_
 refine qo hnt rfl (s_callX (r2 := PV.ref 0 0 none) (nx1 := 1) (H2 := []) (H3 := [(0,oB true 1 enc8 b)]) [] [] rfl rfl rfl (handed_of (by decide) trivial) rfl rfl rfl rfl rfl rfl (w_slices_Clone_byte_byte b cl_b (by first|omega|assumption|(simp; omega)|decide|(simp; done))) rfl (dist_of rfl) rfl rfl rfl rfl ?_)
 refine qm hnt rfl rfl ?_
 refine qo hnt rfl (s_shrI 8 rfl rfl (by decide) ?_)
 refine qo hnt rfl (s_cv8 tab_3 tab_5 rfl rfl rfl ?_)
 refine qm hnt rfl rfl ?_
 refine qo hnt rfl (s_cv8 tab_3 tab_5 rfl rfl rfl ?_)
 refine qo hnt rfl (s_mkM (f := enc8) [u8I (n / 2 ^ 8),u8I n] tab_34 rfl tab_5 ⟨rfl,by decide⟩ (by decide) rfl rfl rfl rfl ?_)
 refine qo hnt rfl (s_appR0 (f := enc8) (l := b) (xs := [u8I (n / 2 ^ 8),u8I n]) tab_34 rfl tab_5 ⟨rfl,by decide,by decide⟩ (srcM tab_34 rfl (hM_ref0 (f := enc8) rfl rfl)) rfl rfl (by first|omega|(simp; omega)) ?_)
 refine qa hnt rfl rfl ?_
 refine r_set [(4,PV.ref 2 0 none)] [(2,oB true 1 enc8 (b ++ [u8I (n / 2 ^ 8),u8I n])),(1,oB true 1 enc8 [u8I (n / 2 ^ 8),u8I n])] 3 ⟨rfl,trivial⟩ rfl rfl ?_
 refine r_end ?_
 refine q_then ?_
 refine w_H (H' := [(2,oB true 1 enc8 (b ++ put2 n)),(1,oB true 1 enc8 [u8I (n / 2 ^ 8),u8I n])]) (congrArg (fun z => ([(2,oB true 1 enc8 z),(1,oB true 1 enc8 [u8I (n / 2 ^ 8),u8I n])] : Heap)) (show b ++ [u8I (n / 2 ^ 8),u8I n] = b ++ put2 n by rfl)) ?_
 refine w_ret ?_
 exact fin_names (nx1 := 1) (H1 := [(0,oB true 1 enc8 (b ++ put2 n))]) [(0,2)] (ret_tmp rfl ret_nil) rfl (by decide) ⟨⟨_,_,rfl,rfl,rfl,rfl⟩,trivial⟩ (by decide) rfl ⟨rfl,rfl,rfl⟩
theorem w_burgageref1_Put (b : List UInt8) (cl_b : Bool) (n : Int) (hb : b.length ≤ 140737488351232) :
    T Try.prog 75 [pS 1 cl_b enc8 b,pI n] 0 [] (Ret (PV.ref 0 0 none) 1 [(0,oB true 1 enc8 (b ++ put2 n))]) := by
 refine t_fun tabOk (n := 16) (rs := [.tmp 4]) Try.func75 rfl rfl rfl rfl (Nat.le_of_ble_eq_true rfl) ?_
 intro c hnt hk
 refine w_seq ?_
 refine w_R ?_
 refine qa hnt rfl rfl ?_
 refine r_end ?_
 refine q_then ?_
 refine w_seq ?_
 refine w_R ?_
 refine qo hnt rfl (s_mkM (f := enc8) ([] : List UInt8) tab_34 rfl tab_5 ⟨rfl,by decide⟩ (by decide) rfl rfl rfl rfl ?_)
 refine qm hnt rfl rfl ?_
 refine qo hnt rfl (s_appR0 (f := enc8) (l := ([] : List UInt8)) (xs := b) tab_34 rfl tab_5 ⟨rfl,by decide,by decide⟩ (srcM tab_34 rfl (hM_sl (f := enc8) rfl)) rfl rfl (by first|omega|(simp; omega)) ?_)
 refine qm hnt rfl rfl ?_
 refine qo hnt rfl (s_conv tab_3 tab_44 rfl rfl rfl ?_)
 refine qo hnt rfl (s_shrK 8 rfl rfl (by decide) ?_)
 refine qo hnt rfl (s_cv8 tab_44 tab_5 rfl rfl rfl ?_)
 refine qm hnt rfl rfl ?_
 refine qo hnt rfl (s_cv8 tab_3 tab_5 rfl rfl rfl ?_)
 refine qo hnt rfl (s_mkM (f := enc8) [u8I ((IntKind.u64.wrap n) / 2 ^ 8),u8I n] tab_34 rfl tab_5 ⟨rfl,by decide⟩ (by decide) rfl rfl rfl rfl ?_)
 refine qo hnt rfl (s_appR0 (f := enc8) (l := b) (xs := [u8I ((IntKind.u64.wrap n) / 2 ^ 8),u8I n]) tab_34 rfl tab_5 ⟨rfl,by decide,by decide⟩ (srcM tab_34 rfl (hM_ref0 (f := enc8) rfl rfl)) rfl rfl (by first|omega|(simp; omega)) ?_)
 refine qa hnt rfl rfl ?_
 refine r_set [(4,PV.ref 3 0 none)] [(3,oB true 1 enc8 (b ++ [u8I ((IntKind.u64.wrap n) / 2 ^ 8),u8I n])),(2,oB true 1 enc8 [u8I ((IntKind.u64.wrap n) / 2 ^ 8),u8I n])] 4 ⟨rfl,trivial⟩ rfl rfl ?_
 refine r_end ?_
 refine q_then ?_
 refine w_H (H' := [(3,oB true 1 enc8 (b ++ put2 n)),(2,oB true 1 enc8 [u8I ((IntKind.u64.wrap n) / 2 ^ 8),u8I n])]) (congrArg (fun z => ([(3,oB true 1 enc8 z),(2,oB true 1 enc8 [u8I ((IntKind.u64.wrap n) / 2 ^ 8),u8I n])] : Heap)) (show b ++ [u8I ((IntKind.u64.wrap n) / 2 ^ 8),u8I n] = b ++ put2 n by first|(rw [put2,← u8I_u64 n]; done)|(rw [put2,← u8I_u64 n]; simp))) ?_
 refine w_ret ?_
 exact fin_names (nx1 := 1) (H1 := [(0,oB true 1 enc8 (b ++ put2 n))]) [(0,3)] (ret_tmp rfl ret_nil) rfl (by decide) ⟨⟨_,_,rfl,rfl,rfl,rfl⟩,trivial⟩ (by decide) rfl ⟨rfl,rfl,rfl⟩
theorem w_octet_Get (b : List UInt8) (cl_b : Bool) (k : Int) (hb : b.length ≤ 140737488355328) (hk0 : k ≤ 9223372036854775807) :
    T Try.prog 92 [pS 1 cl_b enc8 b,pI k] 0 [] (Ret (PV.tup [pI (getV b k),pB (getOk b k)]) 0 []) := by
 refine t_fun tabOk (n := 28) (rs := [.tmp 4,.tmp 5]) Try.func92 rfl rfl rfl rfl (Nat.le_of_ble_eq_true rfl) ?_
 intro c hnt hk
 refine w_seq ?_
 refine w_R ?_
 refine qa hnt rfl rfl ?_
 refine qa hnt rfl rfl ?_
 refine r_end ?_
 refine q_then ?_
 refine w_seq ?_
 refine w_seq ?_
 refine w_R ?_
 refine qm hnt rfl rfl ?_
 refine qo hnt rfl (s_lss rfl rfl ?_)
 refine qm hnt rfl rfl ?_
 refine r_if tabOk hnt rfl rfl rfl (fun g1 => ?_) (fun g1 => ?_)
 ·
  have g1' := g1
  try simp only [sB] at g1'
  refine qm hnt rfl rfl ?_
  refine ry hnt rfl rfl rfl g1 ?_
  refine qm hnt rfl rfl ?_
  refine ry hnt rfl rfl rfl g1 ?_
  refine qo hnt rfl (s_lenM (l := b) tab_34 rfl (hM_sl (f := enc8) rfl) ?_)
  refine ry hnt rfl rfl rfl g1 ?_
  refine qo hnt rfl (s_subi (r := ((b.length : Nat) : Int) - 2) rfl rfl rfl (by omega) ?_)
  refine ry hnt rfl rfl rfl g1 ?_
  refine qo hnt rfl (s_gtr rfl rfl ?_)
  refine qo hnt rfl (s_pick_f rfl g1 rfl ?_)
  refine r_end ?_
  refine q_then ?_
  refine w_if rfl (fun c1 => ?_) (fun c1 => ?_)
  ·
   have c1_ := c1
   try simp only [sB] at c1
   have eo : getOk b k = false := by unfold getOk; apply decide_eq_false; omega
   refine w_seq ?_
   refine w_R ?_
   refine qa hnt rfl rfl ?_
   refine qa hnt rfl rfl ?_
   refine r_end ?_
   refine q_then ?_
   refine w_le (s := 4) (y := pI (getV b k)) rfl (le_of_eq (congrArg (fun z : Int => pI z) (show 0 = (getV b k) by first|(simp [getV,eo]; done)|exact eo.symm|(rw [getV,if_pos eo,hkn,Int.toNat_natCast,getN_of he1 he2,or_word _ _ (lt8 _)])))) ?_
   refine w_le (s := 5) (y := pB (getOk b k)) rfl (le_of_eq (congrArg (fun z : Bool => pB z) (show false = (getOk b k) by first|(simp [getV,eo]; done)|exact eo.symm|(rw [getV,if_pos eo,hkn,Int.toNat_natCast,getN_of he1 he2,or_word _ _ (lt8 _)])))) ?_
   refine w_ret ?_
   refine q_then_ret ?_
   exact fin_plain (ret_tmp rfl (ret_tmp rfl ret_nil)) rfl rfl ⟨rfl,rfl,rfl⟩
  ·
   have c1_ := c1
   try simp only [sB] at c1
   refine w_skip ?_
   refine q_then ?_
   refine w_seq ?_
   have eo : getOk b k = true := by unfold getOk; apply decide_eq_true; omega
   obtain ⟨kn,hkn⟩ : ∃ kn : Nat,k = (kn : Int) := ⟨k.toNat,by omega⟩
   refine w_eq (s := 1) (y := pN kn) rfl (congrArg (fun z : Int => pI z) (show k = ((kn : Nat) : Int) by exact hkn)) ?_
   refine W_drawn tabOk mixed hnt [[],[],[0,1],[0,1,2],[0,1,2,3],[0,1,2,3,4],[],[],[7],[6,7,8],[6,7,8,9],[6,7,8,9,10],[0,1,2,3,4,5,6,7,8,9,10,11],[0,1,2,3,4,5,6,7,8,9,10,11,12],[0,1,2,3,4,5,6,7,8,9,10,11,12,13]] (by kernel_rfl) ?_
   refine d_op ?_
   refine x_run0 [(0,pS 1 cl_b enc8 b)] [] rfl rfl rfl rfl (s_move rfl ⟨rfl,rfl,rfl⟩) ?_
   refine d_op ?_
   refine x_run0 [(1,pN kn)] [] rfl rfl rfl rfl (s_move rfl ⟨rfl,rfl,rfl⟩) ?_
   refine d_op ?_
   obtain ⟨e1,he1⟩ := get_of_lt b (i := kn) (by omega)
   refine x_run0 [(15,pS 1 cl_b enc8 b),(16,pN kn)] [0,1] rfl rfl rfl rfl (s_iaM (q := kn) (b := e1) (f := enc8) tab_34 rfl tab_5 rfl rfl (by omega) rfl he1 ⟨rfl,rfl,rfl⟩) ?_
   refine d_op ?_
   refine x_run0 [(17,PV.f (.ro (enc8 e1)))] [0,1,2] rfl rfl rfl rfl (s_load_ro1 tab_5 rfl rfl rfl rfl ⟨rfl,rfl,rfl⟩) ?_
   refine d_op ?_
   refine x_run0 [(18,p8 e1)] [0,1,2,3] rfl rfl rfl rfl (s_cvN (a := UInt8.toNat e1) tab_5 tab_3 rfl rfl rfl (by omega) (by have := lt8 e1; omega) ⟨rfl,rfl,rfl⟩) ?_
   refine d_op ?_
   refine x_run0 [(19,pN (UInt8.toNat e1))] [0,1,2,3,4] rfl rfl rfl rfl (s_shlN (a := UInt8.toNat e1) 8 rfl (by omega) rfl (by decide) (by have := lt8 e1; omega) ⟨rfl,rfl,rfl⟩) ?_
   refine d_op ?_
   refine x_run0 [(0,pS 1 cl_b enc8 b)] [] rfl rfl rfl rfl (s_move rfl ⟨rfl,rfl,rfl⟩) ?_
   refine d_op ?_
   refine x_run0 [(1,pN kn)] [] rfl rfl rfl rfl (s_move rfl ⟨rfl,rfl,rfl⟩) ?_
   refine d_op ?_
   refine x_run0 [(22,pN kn)] [7] rfl rfl rfl rfl (s_addN (a := kn) (b := 1) rfl rfl (by omega) (by omega) (by omega) ⟨rfl,rfl,rfl⟩) ?_
   refine d_op ?_
   obtain ⟨e2,he2⟩ := get_of_lt b (i := kn + 1) (by omega)
   refine x_run0 [(21,pS 1 cl_b enc8 b),(23,pN (kn + 1))] [6,7,8] rfl rfl rfl rfl (s_iaM (q := kn + 1) (b := e2) (f := enc8) tab_34 rfl tab_5 rfl rfl (by omega) rfl he2 ⟨rfl,rfl,rfl⟩) ?_
   refine d_op ?_
   refine x_run0 [(24,PV.f (.ro (enc8 e2)))] [6,7,8,9] rfl rfl rfl rfl (s_load_ro1 tab_5 rfl rfl rfl rfl ⟨rfl,rfl,rfl⟩) ?_
   refine d_op ?_
   refine x_run0 [(25,p8 e2)] [6,7,8,9,10] rfl rfl rfl rfl (s_cvN (a := UInt8.toNat e2) tab_5 tab_3 rfl rfl rfl (by omega) (by have := lt8 e2; omega) ⟨rfl,rfl,rfl⟩) ?_
   refine d_op ?_
   refine x_run0 [(20,pN ((UInt8.toNat e1) * 2 ^ 8)),(26,pN (UInt8.toNat e2))] [0,1,2,3,4,5,6,7,8,9,10,11] rfl rfl rfl rfl (s_orN (a := (UInt8.toNat e1) * 2 ^ 8) (b := UInt8.toNat e2) rfl rfl (by omega) (by omega) (by have := lt8 e1; have := lt8 e2; omega) ⟨rfl,rfl,rfl⟩) ?_
   refine d_op ?_
   refine x_run0 [(27,pN (((UInt8.toNat e1) * 2 ^ 8) ||| (UInt8.toNat e2)))] [0,1,2,3,4,5,6,7,8,9,10,11,12] rfl rfl rfl rfl (s_assign rfl ⟨rfl,rfl,rfl⟩) ?_
   refine d_op ?_
   refine x_run0 [] [0,1,2,3,4,5,6,7,8,9,10,11,12,13] rfl rfl rfl rfl (s_assign rfl ⟨rfl,rfl,rfl⟩) ?_
   refine d_end ⟨by kernel_rfl, ?_⟩
   refine q_then ?_
   refine w_le (s := 4) (y := pI (getV b k)) rfl (le_of_eq (congrArg (fun z : Int => pI z) (show ((((UInt8.toNat e1) * 2 ^ 8) ||| (UInt8.toNat e2) : Nat) : Int) = (getV b k) by first|(simp [getV,eo]; done)|exact eo.symm|(rw [getV,if_pos eo,hkn,Int.toNat_natCast,getN_of he1 he2,or_word _ _ (lt8 _)])))) ?_
   refine w_le (s := 5) (y := pB (getOk b k)) rfl (le_of_eq (congrArg (fun z : Bool => pB z) (show true = (getOk b k) by first|(simp [getV,eo]; done)|exact eo.symm|(rw [getV,if_pos eo,hkn,Int.toNat_natCast,getN_of he1 he2,or_word _ _ (lt8 _)])))) ?_
   refine w_ret ?_
   exact fin_plain (ret_tmp rfl (ret_tmp rfl ret_nil)) rfl rfl ⟨rfl,rfl,rfl⟩
 ·
  have g1' := g1
  try simp only [sB] at g1'
  have eo : getOk b k = false := by unfold getOk; apply decide_eq_false; omega
  refine rn hnt rfl rfl rfl g1 ?_
  refine rn hnt rfl rfl rfl g1 ?_
  refine rn hnt rfl rfl rfl g1 ?_
  refine rn hnt rfl rfl rfl g1 ?_
  refine qo hnt rfl (s_pick_t rfl g1 rfl ?_)
  refine r_end ?_
  refine q_then ?_
  refine w_if rfl (fun _ => ?_) (fun e => absurd e (by decide))
  refine w_seq ?_
  refine w_R ?_
  refine qa hnt rfl rfl ?_
  refine qa hnt rfl rfl ?_
  refine r_end ?_
  refine q_then ?_
  refine w_le (s := 4) (y := pI (getV b k)) rfl (le_of_eq (congrArg (fun z : Int => pI z) (show 0 = (getV b k) by first|(simp [getV,eo]; done)|exact eo.symm|(rw [getV,if_pos eo,hkn,Int.toNat_natCast,getN_of he1 he2,or_word _ _ (lt8 _)])))) ?_
  refine w_le (s := 5) (y := pB (getOk b k)) rfl (le_of_eq (congrArg (fun z : Bool => pB z) (show false = (getOk b k) by first|(simp [getV,eo]; done)|exact eo.symm|(rw [getV,if_pos eo,hkn,Int.toNat_natCast,getN_of he1 he2,or_word _ _ (lt8 _)])))) ?_
  refine w_ret ?_
  refine q_then_ret ?_
  exact fin_plain (ret_tmp rfl (ret_tmp rfl ret_nil)) rfl rfl ⟨rfl,rfl,rfl⟩
theorem w_burgageref1_Get (b : List UInt8) (cl_b : Bool) (k : Int) (hb : b.length ≤ 140737488355328) (hk0 : k ≤ 9223372036854775807) :
    T Try.prog 104 [pS 1 cl_b enc8 b,pI k] 0 [] (Ret (PV.tup [pI (getV b k),pB (getOk b k)]) 0 []) := by
 refine t_fun tabOk (n := 28) (rs := [.tmp 4,.tmp 5]) Try.func104 rfl rfl rfl rfl (Nat.le_of_ble_eq_true rfl) ?_
 intro c hnt hk
 refine w_seq ?_
 refine w_R ?_
 refine qa hnt rfl rfl ?_
 refine qa hnt rfl rfl ?_
 refine r_end ?_
 refine q_then ?_
 refine w_seq ?_
 refine w_seq ?_
 refine w_R ?_
 refine qm hnt rfl rfl ?_
 refine qo hnt rfl (s_lss rfl rfl ?_)
 refine qm hnt rfl rfl ?_
 refine r_if tabOk hnt rfl rfl rfl (fun g1 => ?_) (fun g1 => ?_)
 ·
  have g1' := g1
  try simp only [sB] at g1'
  refine qm hnt rfl rfl ?_
  refine ry hnt rfl rfl rfl g1 ?_
  refine qm hnt rfl rfl ?_
  refine ry hnt rfl rfl rfl g1 ?_
  refine qo hnt rfl (s_lenM (l := b) tab_34 rfl (hM_sl (f := enc8) rfl) ?_)
  refine ry hnt rfl rfl rfl g1 ?_
  refine qo hnt rfl (s_subi (r := ((b.length : Nat) : Int) - 2) rfl rfl rfl (by omega) ?_)
  refine ry hnt rfl rfl rfl g1 ?_
  refine qo hnt rfl (s_gtr rfl rfl ?_)
  refine qo hnt rfl (s_pick_f rfl g1 rfl ?_)
  refine r_end ?_
  refine q_then ?_
  refine w_if rfl (fun c1 => ?_) (fun c1 => ?_)
  ·
   have c1_ := c1
   try simp only [sB] at c1
   have eo : getOk b k = false := by unfold getOk; apply decide_eq_false; omega
   refine w_seq ?_
   refine w_R ?_
   refine qa hnt rfl rfl ?_
   refine qa hnt rfl rfl ?_
   refine r_end ?_
   refine q_then ?_
   refine w_le (s := 4) (y := pI (getV b k)) rfl (le_of_eq (congrArg (fun z : Int => pI z) (show 0 = (getV b k) by first|(simp [getV,eo]; done)|exact eo.symm|(rw [getV,if_pos eo,hkn,Int.toNat_natCast,getN_of he1 he2,or_word _ _ (lt8 _)])))) ?_
   refine w_le (s := 5) (y := pB (getOk b k)) rfl (le_of_eq (congrArg (fun z : Bool => pB z) (show false = (getOk b k) by first|(simp [getV,eo]; done)|exact eo.symm|(rw [getV,if_pos eo,hkn,Int.toNat_natCast,getN_of he1 he2,or_word _ _ (lt8 _)])))) ?_
   refine w_ret ?_
   refine q_then_ret ?_
   exact fin_plain (ret_tmp rfl (ret_tmp rfl ret_nil)) rfl rfl ⟨rfl,rfl,rfl⟩
  ·
   have c1_ := c1
   try simp only [sB] at c1
   refine w_skip ?_
   refine q_then ?_
   refine w_seq ?_
   have eo : getOk b k = true := by unfold getOk; apply decide_eq_true; omega
   obtain ⟨kn,hkn⟩ : ∃ kn : Nat,k = (kn : Int) := ⟨k.toNat,by omega⟩
   refine w_eq (s := 1) (y := pN kn) rfl (congrArg (fun z : Int => pI z) (show k = ((kn : Nat) : Int) by exact hkn)) ?_
   refine W_drawn tabOk mixed hnt [[],[],[0,1],[0,1,2],[0,1,2,3],[0,1,2,3,4],[],[],[7],[6,7,8],[6,7,8,9],[6,7,8,9,10],[0,1,2,3,4,5,6,7,8,9,10,11],[0,1,2,3,4,5,6,7,8,9,10,11,12],[0,1,2,3,4,5,6,7,8,9,10,11,12,13]] (by kernel_rfl) ?_
   refine d_op ?_
   refine x_run0 [(0,pS 1 cl_b enc8 b)] [] rfl rfl rfl rfl (s_move rfl ⟨rfl,rfl,rfl⟩) ?_
   refine d_op ?_
   refine x_run0 [(1,pN kn)] [] rfl rfl rfl rfl (s_move rfl ⟨rfl,rfl,rfl⟩) ?_
   refine d_op ?_
   obtain ⟨e1,he1⟩ := get_of_lt b (i := kn) (by omega)
   refine x_run0 [(15,pS 1 cl_b enc8 b),(16,pN kn)] [0,1] rfl rfl rfl rfl (s_iaM (q := kn) (b := e1) (f := enc8) tab_34 rfl tab_5 rfl rfl (by omega) rfl he1 ⟨rfl,rfl,rfl⟩) ?_
   refine d_op ?_
   refine x_run0 [(17,PV.f (.ro (enc8 e1)))] [0,1,2] rfl rfl rfl rfl (s_load_ro1 tab_5 rfl rfl rfl rfl ⟨rfl,rfl,rfl⟩) ?_
   refine d_op ?_
   refine x_run0 [(18,p8 e1)] [0,1,2,3] rfl rfl rfl rfl (s_cvN (a := UInt8.toNat e1) tab_5 tab_3 rfl rfl rfl (by omega) (by have := lt8 e1; omega) ⟨rfl,rfl,rfl⟩) ?_
   refine d_op ?_
   refine x_run0 [(19,pN (UInt8.toNat e1))] [0,1,2,3,4] rfl rfl rfl rfl (s_shlN (a := UInt8.toNat e1) 8 rfl (by omega) rfl (by decide) (by have := lt8 e1; omega) ⟨rfl,rfl,rfl⟩) ?_
   refine d_op ?_
   refine x_run0 [(0,pS 1 cl_b enc8 b)] [] rfl rfl rfl rfl (s_move rfl ⟨rfl,rfl,rfl⟩) ?_
   refine d_op ?_
   refine x_run0 [(1,pN kn)] [] rfl rfl rfl rfl (s_move rfl ⟨rfl,rfl,rfl⟩) ?_
   refine d_op ?_
   refine x_run0 [(22,pN kn)] [7] rfl rfl rfl rfl (s_addN (a := kn) (b := 1) rfl rfl (by omega) (by omega) (by omega) ⟨rfl,rfl,rfl⟩) ?_
   refine d_op ?_
   obtain ⟨e2,he2⟩ := get_of_lt b (i := kn + 1) (by omega)
   refine x_run0 [(21,pS 1 cl_b enc8 b),(23,pN (kn + 1))] [6,7,8] rfl rfl rfl rfl (s_iaM (q := kn + 1) (b := e2) (f := enc8) tab_34 rfl tab_5 rfl rfl (by omega) rfl he2 ⟨rfl,rfl,rfl⟩) ?_
   refine d_op ?_
   refine x_run0 [(24,PV.f (.ro (enc8 e2)))] [6,7,8,9] rfl rfl rfl rfl (s_load_ro1 tab_5 rfl rfl rfl rfl ⟨rfl,rfl,rfl⟩) ?_
   refine d_op ?_
   refine x_run0 [(25,p8 e2)] [6,7,8,9,10] rfl rfl rfl rfl (s_cvN (a := UInt8.toNat e2) tab_5 tab_3 rfl rfl rfl (by omega) (by have := lt8 e2; omega) ⟨rfl,rfl,rfl⟩) ?_
   refine d_op ?_
   refine x_run0 [(20,pN ((UInt8.toNat e1) * 2 ^ 8)),(26,pN (UInt8.toNat e2))] [0,1,2,3,4,5,6,7,8,9,10,11] rfl rfl rfl rfl (s_orN (a := (UInt8.toNat e1) * 2 ^ 8) (b := UInt8.toNat e2) rfl rfl (by omega) (by omega) (by have := lt8 e1; have := lt8 e2; omega) ⟨rfl,rfl,rfl⟩) ?_
   refine d_op ?_
   refine x_run0 [(27,pN (((UInt8.toNat e1) * 2 ^ 8) ||| (UInt8.toNat e2)))] [0,1,2,3,4,5,6,7,8,9,10,11,12] rfl rfl rfl rfl (s_assign rfl ⟨rfl,rfl,rfl⟩) ?_
   refine d_op ?_
   refine x_run0 [] [0,1,2,3,4,5,6,7,8,9,10,11,12,13] rfl rfl rfl rfl (s_assign rfl ⟨rfl,rfl,rfl⟩) ?_
   refine d_end ⟨by kernel_rfl, ?_⟩
   refine q_then ?_
   refine w_le (s := 4) (y := pI (getV b k)) rfl (le_of_eq (congrArg (fun z : Int => pI z) (show ((((UInt8.toNat e1) * 2 ^ 8) ||| (UInt8.toNat e2) : Nat) : Int) = (getV b k) by first|(simp [getV,eo]; done)|exact eo.symm|(rw [getV,if_pos eo,hkn,Int.toNat_natCast,getN_of he1 he2,or_word _ _ (lt8 _)])))) ?_
   refine w_le (s := 5) (y := pB (getOk b k)) rfl (le_of_eq (congrArg (fun z : Bool => pB z) (show true = (getOk b k) by first|(simp [getV,eo]; done)|exact eo.symm|(rw [getV,if_pos eo,hkn,Int.toNat_natCast,getN_of he1 he2,or_word _ _ (lt8 _)])))) ?_
   refine w_ret ?_
   exact fin_plain (ret_tmp rfl (ret_tmp rfl ret_nil)) rfl rfl ⟨rfl,rfl,rfl⟩
 ·
  have g1' := g1
  try simp only [sB] at g1'
  have eo : getOk b k = false := by unfold getOk; apply decide_eq_false; omega
  refine rn hnt rfl rfl rfl g1 ?_
  refine rn hnt rfl rfl rfl g1 ?_
  refine rn hnt rfl rfl rfl g1 ?_
  refine rn hnt rfl rfl rfl g1 ?_
  refine qo hnt rfl (s_pick_t rfl g1 rfl ?_)
  refine r_end ?_
  refine q_then ?_
  refine w_if rfl (fun _ => ?_) (fun e => absurd e (by decide))
  refine w_seq ?_
  refine w_R ?_
  refine qa hnt rfl rfl ?_
  refine qa hnt rfl rfl ?_
  refine r_end ?_
  refine q_then ?_
  refine w_le (s := 4) (y := pI (getV b k)) rfl (le_of_eq (congrArg (fun z : Int => pI z) (show 0 = (getV b k) by first|(simp [getV,eo]; done)|exact eo.symm|(rw [getV,if_pos eo,hkn,Int.toNat_natCast,getN_of he1 he2,or_word _ _ (lt8 _)])))) ?_
  refine w_le (s := 5) (y := pB (getOk b k)) rfl (le_of_eq (congrArg (fun z : Bool => pB z) (show false = (getOk b k) by first|(simp [getV,eo]; done)|exact eo.symm|(rw [getV,if_pos eo,hkn,Int.toNat_natCast,getN_of he1 he2,or_word _ _ (lt8 _)])))) ?_
  refine w_ret ?_
  refine q_then_ret ?_
  exact fin_plain (ret_tmp rfl (ret_tmp rfl ret_nil)) rfl rfl ⟨rfl,rfl,rfl⟩
theorem w_octet_Pack (l : List Bool) (cl_l : Bool) (hl : l.length ≤ 140737488351232) :
    T Try.prog 40 [pS 1 cl_l encBo l] 0 [] (Ret (PV.ref 0 0 none) 1 [(0,oB true 1 enc8 (packL l))]) := by
 refine t_fun tabOk (n := 32) (rs := [.tmp 2]) Try.func40 rfl rfl rfl rfl (Nat.le_of_ble_eq_true rfl) ?_
 intro c hnt hk
 refine w_seq ?_
 refine w_R ?_
 refine qa hnt rfl rfl ?_
 refine r_end ?_
 refine q_then ?_
 refine w_seq ?_
 refine w_R ?_
 refine qm hnt rfl rfl ?_
 refine qo hnt rfl (s_lenM (l := l) tab_23 rfl (hM_sl (f := encBo) rfl) ?_)
 refine qo hnt rfl (s_addN (a := l.length) (b := 8) rfl rfl (by omega) (by omega) (by omega) ?_)
 refine qo hnt rfl (s_subN (a := l.length + 8) (b := 1) rfl rfl (by omega) (by omega) (by omega) ?_)
 refine qo hnt rfl (s_quoN (a := l.length + 8 - 1) (b := 8) rfl rfl (by omega) (by omega) (by omega) ?_)
 refine qo hnt rfl (s_makeM (f := enc8) (bt := 1) tab_one (0 : UInt8) ((l.length + 8 - 1) / 8) (fun j hj => by cases hj; rfl) tab_34 rfl tab_5 ⟨rfl,by decide⟩ rfl rfl rfl (by omega) (by refine ⟨?_, ?_, ?_⟩ <;> omega) ?_)
 refine qa hnt rfl rfl ?_
 refine r_set [(0,pS 1 cl_l encBo l),(3,PV.ref 0 0 none)] [(0,oB true 1 enc8 (List.replicate ((l.length + 8 - 1) / 8) (0 : UInt8)))] 1 ⟨rfl,rfl,trivial⟩ rfl rfl ?_
 refine r_end ?_
 refine q_then ?_
 refine w_seq ?_
 refine w_seq ?_
 refine w_R ?_
 refine qm hnt rfl rfl ?_
 refine qo hnt rfl (s_lenM (l := l) tab_23 rfl (hM_sl (f := encBo) rfl) ?_)
 refine qm hnt rfl rfl ?_
 refine r_end ?_
 refine q_then ?_
 refine w_block ?_
 refine loop2 (fun (os : List UInt8) (i : Nat) => i ≤ l.length ∧ os = packT l i) (fun (os : List UInt8) (i : Nat) => [(3,PV.ref 0 0 none),(12,pS 1 cl_l encBo l),(13,pN l.length),(14,pN i)]) 1 (fun (os : List UInt8) (i : Nat) => [(0,oB true 1 enc8 os)]) (fun (os : List UInt8) (i : Nat) => l.length - i) (List.replicate ((l.length + 8 - 1) / 8) (0 : UInt8)) (0) ?_ ⟨[(0,0)],by rw [hk]; decide,⟨⟨_,rfl,rfl,rfl⟩,⟨_,rfl,rfl,rfl⟩,⟨_,rfl,rfl,rfl⟩,⟨_,rfl,rfl,rfl⟩,trivial⟩,⟨⟨_,_,rfl,rfl,rfl,rfl⟩,trivial⟩,by rw [hk]; decide⟩ ?_
 · exact ⟨Nat.zero_le _,by first|(rw [packT_zero]; done)|(rw [packT_zero]; rfl)⟩
 ·
  intro os i hI
  obtain ⟨hi,ho⟩ := hI
  have hol : os.length = (l.length + 7) / 8 := by rw [ho]; exact packT_length l i
  refine w_seq ?_
  refine w_R ?_
  refine qo hnt rfl (s_lss rfl rfl ?_)
  refine r_end ?_
  refine q_then ?_
  refine w_seq ?_
  refine w_if rfl (fun c1 => ?_) (fun c1 => ?_)
  ·
   have c1_ := c1
   try simp only [sB] at c1
   refine w_skip ?_
   refine q_then ?_
   refine w_seq ?_
   refine w_block ?_
   refine w_seq ?_
   refine w_R ?_
   refine qm hnt rfl rfl ?_
   obtain ⟨e1,he1⟩ := get_of_lt l (i := i) (by omega)
   refine qo hnt rfl (s_iaM (q := i) (b := e1) (f := encBo) tab_23 rfl tab_4 rfl rfl (by omega) rfl he1 ?_)
   refine qo hnt rfl (s_load_ro1 tab_4 rfl rfl rfl rfl ?_)
   refine qa hnt rfl rfl ?_
   refine qa hnt rfl rfl ?_
   refine r_end ?_
   refine q_then ?_
   refine w_seq ?_
   refine w_R ?_
   refine qm hnt rfl rfl ?_
   refine r_end ?_
   refine q_then ?_
   refine w_if rfl (fun c2 => ?_) (fun c2 => ?_)
   ·
    have c2_ := c2
    try simp only [sB] at c2
    refine W_drawn tabOk mixed hnt [[],[],[1],[0,1,2],[0,1,2,3],[],[5],[5,6],[0,1,2,3,4,5,6,7],[0,1,2,3,4,5,6,7,8],[0,1,2,3,4,5,6,7,8,9]] (by kernel_rfl) ?_
    refine d_op ?_
    refine x_run0 [(3,PV.ref 0 0 none)] [] rfl rfl rfl rfl (s_move rfl ⟨rfl,rfl,rfl⟩) ?_
    refine d_op ?_
    refine x_run0 [(4,pN i)] [] rfl rfl rfl rfl (s_move rfl ⟨rfl,rfl,rfl⟩) ?_
    refine d_op ?_
    refine x_run0 [(21,pN i)] [1] rfl rfl rfl rfl (s_quoN (a := i) (b := 8) rfl rfl (by omega) (by omega) (by omega) ⟨rfl,rfl,rfl⟩) ?_
    refine d_op ?_
    refine x_run [(20,PV.ref 0 0 none),(22,pN (i / 8))] [0,1,2] [(0,oB true 1 enc8 os)] [] [(0,oB true 1 enc8 os)] [] [(0,oB true 1 enc8 os)] rfl rfl rfl rfl rfl rfl (s_iaR0 (q := i / 8) (f := enc8) (l := os) tab_34 rfl tab_5 rfl rfl (by omega) rfl rfl (by omega) ⟨rfl,rfl,rfl⟩) rfl ⟨rfl,trivial⟩ rfl rfl ?_
    refine d_op ?_
    obtain ⟨e2,he2⟩ := get_of_lt os (i := i / 8) (by omega)
    refine x_run [(23,PV.ep 0 (i / 8) 0)] [0,1,2,3] [(0,oB true 1 enc8 os)] [] [(0,oB true 1 enc8 os)] [] [(0,oB true 1 enc8 os)] rfl rfl rfl rfl rfl rfl (s_ldM (b := e2) (f := enc8) tab_5 rfl rfl rfl rfl he2 rfl ⟨rfl,rfl,rfl⟩) rfl ⟨rfl,trivial⟩ rfl rfl ?_
    refine d_op ?_
    refine x_run0 [(4,pN i)] [] rfl rfl rfl rfl (s_move rfl ⟨rfl,rfl,rfl⟩) ?_
    refine d_op ?_
    refine x_run0 [(25,pN i)] [5] rfl rfl rfl rfl (s_remN (a := i) (b := 8) rfl rfl (by omega) (by omega) (by omega) ⟨rfl,rfl,rfl⟩) ?_
    refine d_op ?_
    refine x_run0 [(26,pN (i % 8))] [5,6] rfl rfl rfl rfl (s_shl8 (a := 1) (i % 8) rfl rfl (by first|rfl|omega) (by first|decide|omega) ⟨rfl,rfl,rfl⟩) ?_
    refine d_op ?_
    refine x_run0 [(24,p8 e2),(27,p8 (1 <<< UInt8.ofNat (i % 8)))] [0,1,2,3,4,5,6,7] rfl rfl rfl rfl (s_or8 (a := e2) (b := 1 <<< UInt8.ofNat (i % 8)) rfl rfl ⟨rfl,rfl,rfl⟩) ?_
    refine d_op ?_
    refine x_run [(20,PV.ref 0 0 none),(22,pN (i / 8))] [0,1,2,3,4,5,6,7,8] [(0,oB true 1 enc8 os)] [] [(0,oB true 1 enc8 os)] [] [(0,oB true 1 enc8 os)] rfl rfl rfl rfl rfl rfl (s_iaR0 (q := i / 8) (f := enc8) (l := os) tab_34 rfl tab_5 rfl rfl (by omega) rfl rfl (by omega) ⟨rfl,rfl,rfl⟩) rfl ⟨rfl,trivial⟩ rfl rfl ?_
    refine d_op ?_
    refine x_run [(29,PV.ep 0 (i / 8) 0),(28,p8 (e2 ||| (1 <<< UInt8.ofNat (i % 8))))] [0,1,2,3,4,5,6,7,8,9] [] [(0,oB true 1 enc8 os)] [(0,oB true 1 enc8 (os.set (i / 8) (e2 ||| (1 <<< UInt8.ofNat (i % 8)))))] [(0,oB true 1 enc8 (os.set (i / 8) (e2 ||| (1 <<< UInt8.ofNat (i % 8)))))] [(0,oB true 1 enc8 (os.set (i / 8) (e2 ||| (1 <<< UInt8.ofNat (i % 8)))))] rfl rfl rfl rfl rfl rfl (s_stM (y0 := e2) (z := e2 ||| (1 <<< UInt8.ofNat (i % 8))) (f := enc8) tab_5 rfl rfl rfl rfl rfl he2 (Nat.le_of_ble_eq_true rfl) rfl rfl (by simp) rfl ⟨rfl,rfl,rfl⟩) rfl trivial rfl rfl ?_
    refine d_end ⟨by kernel_rfl, ?_⟩
    refine q_block ?_
    refine q_then ?_
    refine w_R ?_
    refine qo hnt rfl (s_addN (a := i) (b := 1) rfl rfl (by omega) (by omega) (by omega) ?_)
    refine qm hnt rfl rfl ?_
    refine r_end ?_
    refine q_then ?_
    refine ⟨(os.set (i / 8) (e2 ||| (1 <<< UInt8.ofNat (i % 8)))),(i + 1), ?_, ?_,⟨[(0,0)],by rw [hk]; decide,⟨⟨_,rfl,rfl,rfl⟩,⟨_,rfl,rfl,rfl⟩,⟨_,rfl,rfl,rfl⟩,⟨_,rfl,rfl,rfl⟩,trivial⟩,⟨⟨_,_,rfl,rfl,rfl,rfl⟩,trivial⟩,by rw [hk]; decide⟩⟩
    ·
     refine ⟨by omega, ?_⟩
     first|(rw [packT_no (by rw [he1,c2]),ho]; done)|(subst ho; exact packT_yes (by rw [he1,c2]) he2)
    · omega
   ·
    have c2_ := c2
    try simp only [sB] at c2
    refine w_skip ?_
    refine q_block ?_
    refine q_then ?_
    refine w_R ?_
    refine qo hnt rfl (s_addN (a := i) (b := 1) rfl rfl (by omega) (by omega) (by omega) ?_)
    refine qm hnt rfl rfl ?_
    refine r_end ?_
    refine q_then ?_
    refine ⟨(os),(i + 1), ?_, ?_,⟨[(0,0)],by rw [hk]; decide,⟨⟨_,rfl,rfl,rfl⟩,⟨_,rfl,rfl,rfl⟩,⟨_,rfl,rfl,rfl⟩,⟨_,rfl,rfl,rfl⟩,trivial⟩,⟨⟨_,_,rfl,rfl,rfl,rfl⟩,trivial⟩,by rw [hk]; decide⟩⟩
    ·
     refine ⟨by omega, ?_⟩
     first|(rw [packT_no (by rw [he1,c2]),ho]; done)|(subst ho; exact packT_yes (by rw [he1,c2]) he2)
    · omega
  ·
   have c1_ := c1
   try simp only [sB] at c1
   refine w_exit ?_
   refine q_then_exit ?_
   refine q_then_exit ?_
   refine q_block_exit ?_
   refine q_then ?_
   refine w_seq ?_
   refine w_R ?_
   refine qm hnt rfl rfl ?_
   refine qa hnt rfl rfl ?_
   refine r_end ?_
   refine q_then ?_
   refine w_H (H' := [(0,oB true 1 enc8 (packL l))]) (congrArg (fun z => ([(0,oB true 1 enc8 z)] : Heap)) (show os = packL l by rw [ho,show i = l.length by omega,packT_end])) ?_
   refine w_ret ?_
   exact fin_names (nx1 := 1) (H1 := [(0,oB true 1 enc8 (packL l))]) [(0,0)] (ret_tmp rfl ret_nil) rfl (by decide) ⟨⟨_,_,rfl,rfl,rfl,rfl⟩,trivial⟩ (by decide) rfl ⟨rfl,rfl,rfl⟩
theorem w_burgageref1_Pack (l : List Bool) (cl_l : Bool) (hl : l.length ≤ 140737488351232) :
    T Try.prog 77 [pS 1 cl_l encBo l] 0 [] (Ret (PV.ref 0 0 none) 1 [(0,oB true 1 enc8 (packL l))]) := by
 refine t_fun tabOk (n := 32) (rs := [.tmp 2]) Try.func77 rfl rfl rfl rfl (Nat.le_of_ble_eq_true rfl) ?_
 intro c hnt hk
 refine w_seq ?_
 refine w_R ?_
 refine qa hnt rfl rfl ?_
 refine r_end ?_
 refine q_then ?_
 refine w_seq ?_
 refine w_R ?_
 refine qm hnt rfl rfl ?_
 refine qo hnt rfl (s_lenM (l := l) tab_23 rfl (hM_sl (f := encBo) rfl) ?_)
 refine qo hnt rfl (s_addN (a := l.length) (b := 7) rfl rfl (by omega) (by omega) (by omega) ?_)
 refine qo hnt rfl (s_quoN (a := l.length + 7) (b := 8) rfl rfl (by omega) (by omega) (by omega) ?_)
 refine qo hnt rfl (s_makeM (f := enc8) (bt := 1) tab_one (0 : UInt8) ((l.length + 7) / 8) (fun j hj => by cases hj; rfl) tab_34 rfl tab_5 ⟨rfl,by decide⟩ rfl rfl rfl (by omega) (by refine ⟨?_, ?_, ?_⟩ <;> omega) ?_)
 refine qa hnt rfl rfl ?_
 refine r_set [(0,pS 1 cl_l encBo l),(3,PV.ref 0 0 none)] [(0,oB true 1 enc8 (List.replicate ((l.length + 7) / 8) (0 : UInt8)))] 1 ⟨rfl,rfl,trivial⟩ rfl rfl ?_
 refine r_end ?_
 refine q_then ?_
 refine w_seq ?_
 refine w_seq ?_
 refine w_R ?_
 refine qm hnt rfl rfl ?_
 refine qo hnt rfl (s_lenM (l := l) tab_23 rfl (hM_sl (f := encBo) rfl) ?_)
 refine qm hnt rfl rfl ?_
 refine r_end ?_
 refine q_then ?_
 refine w_block ?_
 refine loop2 (fun (os : List UInt8) (i : Nat) => i ≤ l.length ∧ os = packT l i) (fun (os : List UInt8) (i : Nat) => [(3,PV.ref 0 0 none),(11,pS 1 cl_l encBo l),(12,pN l.length),(13,pN i)]) 1 (fun (os : List UInt8) (i : Nat) => [(0,oB true 1 enc8 os)]) (fun (os : List UInt8) (i : Nat) => l.length - i) (List.replicate ((l.length + 7) / 8) (0 : UInt8)) (0) ?_ ⟨[(0,0)],by rw [hk]; decide,⟨⟨_,rfl,rfl,rfl⟩,⟨_,rfl,rfl,rfl⟩,⟨_,rfl,rfl,rfl⟩,⟨_,rfl,rfl,rfl⟩,trivial⟩,⟨⟨_,_,rfl,rfl,rfl,rfl⟩,trivial⟩,by rw [hk]; decide⟩ ?_
 · exact ⟨Nat.zero_le _,by first|(rw [packT_zero]; done)|(rw [packT_zero]; rfl)⟩
 ·
  intro os i hI
  obtain ⟨hi,ho⟩ := hI
  have hol : os.length = (l.length + 7) / 8 := by rw [ho]; exact packT_length l i
  refine w_seq ?_
  refine w_R ?_
  refine qo hnt rfl (s_lss rfl rfl ?_)
  refine r_end ?_
  refine q_then ?_
  refine w_seq ?_
  refine w_if rfl (fun c1 => ?_) (fun c1 => ?_)
  ·
   have c1_ := c1
   try simp only [sB] at c1
   refine w_skip ?_
   refine q_then ?_
   refine w_seq ?_
   refine w_block ?_
   refine w_seq ?_
   refine w_R ?_
   refine qm hnt rfl rfl ?_
   obtain ⟨e1,he1⟩ := get_of_lt l (i := i) (by omega)
   refine qo hnt rfl (s_iaM (q := i) (b := e1) (f := encBo) tab_23 rfl tab_4 rfl rfl (by omega) rfl he1 ?_)
   refine qo hnt rfl (s_load_ro1 tab_4 rfl rfl rfl rfl ?_)
   refine qa hnt rfl rfl ?_
   refine qa hnt rfl rfl ?_
   refine r_end ?_
   refine q_then ?_
   refine w_seq ?_
   refine w_R ?_
   refine qm hnt rfl rfl ?_
   refine r_end ?_
   refine q_then ?_
   refine w_if rfl (fun c2 => ?_) (fun c2 => ?_)
   ·
    have c2_ := c2
    try simp only [sB] at c2
    refine w_R ?_
    refine qm hnt rfl rfl ?_
    refine qm hnt rfl rfl ?_
    refine qo hnt rfl (s_quoN (a := i) (b := 8) rfl rfl (by omega) (by omega) (by omega) ?_)
    refine qo hnt rfl (s_iaR0 (q := i / 8) (f := enc8) (l := os) tab_34 rfl tab_5 rfl rfl (by omega) rfl rfl (by omega) ?_)
    obtain ⟨e2,he2⟩ := get_of_lt os (i := i / 8) (by omega)
    refine qo hnt rfl (s_ldM (b := e2) (f := enc8) tab_5 rfl rfl rfl rfl he2 rfl ?_)
    refine qm hnt rfl rfl ?_
    refine qo hnt rfl (s_remN (a := i) (b := 8) rfl rfl (by omega) (by omega) (by omega) ?_)
    refine qo hnt rfl (s_cvK tab_3 tab_44 rfl rfl rfl rfl (by exact ⟨by omega,by show _ < (18446744073709551616 : Int); omega⟩) ?_)
    refine qo hnt rfl (s_shl8 (a := 1) (i % 8) rfl rfl (by first|rfl|omega) (by first|decide|omega) ?_)
    refine qo hnt rfl (s_or8 (a := e2) (b := 1 <<< UInt8.ofNat (i % 8)) rfl rfl ?_)
    refine qo hnt rfl (s_iaR0 (q := i / 8) (f := enc8) (l := os) tab_34 rfl tab_5 rfl rfl (by omega) rfl rfl (by omega) ?_)
    refine qo hnt rfl (s_stM (y0 := e2) (z := e2 ||| (1 <<< UInt8.ofNat (i % 8))) (f := enc8) tab_5 rfl rfl rfl rfl rfl he2 (Nat.le_of_ble_eq_true rfl) rfl rfl (by simp) rfl ?_)
    refine r_set [(3,PV.ref 0 0 none),(11,pS 1 cl_l encBo l),(12,pN l.length),(13,pN i)] [(0,oB true 1 enc8 (os.set (i / 8) (e2 ||| (1 <<< UInt8.ofNat (i % 8)))))] 1 ⟨rfl,rfl,rfl,rfl,trivial⟩ rfl rfl ?_
    refine r_end ?_
    refine q_block ?_
    refine q_then ?_
    refine w_R ?_
    refine qo hnt rfl (s_addN (a := i) (b := 1) rfl rfl (by omega) (by omega) (by omega) ?_)
    refine qm hnt rfl rfl ?_
    refine r_end ?_
    refine q_then ?_
    refine ⟨(os.set (i / 8) (e2 ||| (1 <<< UInt8.ofNat (i % 8)))),(i + 1), ?_, ?_,⟨[(0,0)],by rw [hk]; decide,⟨⟨_,rfl,rfl,rfl⟩,⟨_,rfl,rfl,rfl⟩,⟨_,rfl,rfl,rfl⟩,⟨_,rfl,rfl,rfl⟩,trivial⟩,⟨⟨_,_,rfl,rfl,rfl,rfl⟩,trivial⟩,by rw [hk]; decide⟩⟩
    ·
     refine ⟨by omega, ?_⟩
     first|(rw [packT_no (by rw [he1,c2]),ho]; done)|(subst ho; exact packT_yes (by rw [he1,c2]) he2)
    · omega
   ·
    have c2_ := c2
    try simp only [sB] at c2
    refine w_skip ?_
    refine q_block ?_
    refine q_then ?_
    refine w_R ?_
    refine qo hnt rfl (s_addN (a := i) (b := 1) rfl rfl (by omega) (by omega) (by omega) ?_)
    refine qm hnt rfl rfl ?_
    refine r_end ?_
    refine q_then ?_
    refine ⟨(os),(i + 1), ?_, ?_,⟨[(0,0)],by rw [hk]; decide,⟨⟨_,rfl,rfl,rfl⟩,⟨_,rfl,rfl,rfl⟩,⟨_,rfl,rfl,rfl⟩,⟨_,rfl,rfl,rfl⟩,trivial⟩,⟨⟨_,_,rfl,rfl,rfl,rfl⟩,trivial⟩,by rw [hk]; decide⟩⟩
    ·
     refine ⟨by omega, ?_⟩
     first|(rw [packT_no (by rw [he1,c2]),ho]; done)|(subst ho; exact packT_yes (by rw [he1,c2]) he2)
    · omega
  ·
   have c1_ := c1
   try simp only [sB] at c1
   refine w_exit ?_
   refine q_then_exit ?_
   refine q_then_exit ?_
   refine q_block_exit ?_
   refine q_then ?_
   refine w_seq ?_
   refine w_R ?_
   refine qm hnt rfl rfl ?_
   refine qa hnt rfl rfl ?_
   refine r_end ?_
   refine q_then ?_
   refine w_H (H' := [(0,oB true 1 enc8 (packL l))]) (congrArg (fun z => ([(0,oB true 1 enc8 z)] : Heap)) (show os = packL l by rw [ho,show i = l.length by omega,packT_end])) ?_
   refine w_ret ?_
   exact fin_names (nx1 := 1) (H1 := [(0,oB true 1 enc8 (packL l))]) [(0,0)] (ret_tmp rfl ret_nil) rfl (by decide) ⟨⟨_,_,rfl,rfl,rfl,rfl⟩,trivial⟩ (by decide) rfl ⟨rfl,rfl,rfl⟩
theorem w_octet_Bytes (l : List UInt16) (cl_l : Bool) (hl : l.length * 2 ≤ 140737488351232) :
    T Try.prog 38 [pS 1 cl_l enc16 l] 0 [] (Ret (PV.ref 0 0 none) 1 [(0,oB true 1 enc8 (bytesL l))]) := by
 refine t_fun tabOk (n := 26) (rs := [.tmp 2]) Try.func38 rfl rfl rfl rfl (Nat.le_of_ble_eq_true rfl) ?_
 intro c hnt hk
 refine w_seq ?_
 refine w_R ?_
 refine qa hnt rfl rfl ?_
 refine r_end ?_
 refine q_then ?_
 refine w_seq ?_
 refine w_R ?_
 refine qm hnt rfl rfl ?_
 refine qo hnt rfl (s_lenM (l := l) tab_24 rfl (hM_sl (f := enc16) rfl) ?_)
 refine qo hnt rfl (s_mulN (a := 2) (b := l.length) rfl rfl (by omega) (by omega) (by omega) ?_)
 refine qo hnt rfl (s_makeM (f := enc8) (bt := 1) tab_one (0 : UInt8) 0 (fun j hj => by cases hj; rfl) tab_34 rfl tab_5 ⟨rfl,by decide⟩ rfl rfl rfl (by omega) (by refine ⟨?_, ?_, ?_⟩ <;> omega) ?_)
 refine qa hnt rfl rfl ?_
 refine r_set [(0,pS 1 cl_l enc16 l),(3,PV.ref 0 0 none)] [(0,oB true 1 enc8 (List.replicate 0 (0 : UInt8)))] 1 ⟨rfl,rfl,trivial⟩ rfl rfl ?_
 refine r_end ?_
 refine q_then ?_
 refine w_seq ?_
 refine w_seq ?_
 refine w_R ?_
 refine qm hnt rfl rfl ?_
 refine qo hnt rfl (s_lenM (l := l) tab_24 rfl (hM_sl (f := enc16) rfl) ?_)
 refine qm hnt rfl rfl ?_
 refine r_end ?_
 refine q_then ?_
 refine w_block ?_
 refine loop2 (fun (os : List UInt8) (i : Nat) => i ≤ l.length ∧ os = bytesL (l.take i)) (fun (os : List UInt8) (i : Nat) => [(3,PV.ref 0 0 none),(10,pS 1 cl_l enc16 l),(11,pN l.length),(12,pN i)]) 1 (fun (os : List UInt8) (i : Nat) => [(0,oB true 1 enc8 os)]) (fun (os : List UInt8) (i : Nat) => l.length - i) (List.replicate 0 (0 : UInt8)) (0) ?_ ⟨[(0,0)],by rw [hk]; decide,⟨⟨_,rfl,rfl,rfl⟩,⟨_,rfl,rfl,rfl⟩,⟨_,rfl,rfl,rfl⟩,⟨_,rfl,rfl,rfl⟩,trivial⟩,⟨⟨_,_,rfl,rfl,rfl,rfl⟩,trivial⟩,by rw [hk]; decide⟩ ?_
 · exact ⟨Nat.zero_le _,rfl⟩
 ·
  intro os i hI
  obtain ⟨hi,ho⟩ := hI
  have hol : os.length = 2 * i := by rw [ho,bytesL_length,List.length_take]; omega
  refine w_seq ?_
  refine w_R ?_
  refine qo hnt rfl (s_lss rfl rfl ?_)
  refine r_end ?_
  refine q_then ?_
  refine w_seq ?_
  refine w_if rfl (fun c1 => ?_) (fun c1 => ?_)
  ·
   have c1_ := c1
   try simp only [sB] at c1
   refine w_skip ?_
   refine q_then ?_
   refine w_seq ?_
   refine w_block ?_
   refine w_seq ?_
   refine w_R ?_
   obtain ⟨e1,he1⟩ := get_of_lt l (i := i) (by omega)
   refine qo hnt rfl (s_iaM (q := i) (b := e1) (f := enc16) tab_24 rfl tab_25 rfl rfl (by omega) rfl he1 ?_)
   refine qo hnt rfl (s_load_ro1 tab_25 rfl rfl rfl rfl ?_)
   refine qa hnt rfl rfl ?_
   refine r_end ?_
   refine q_then ?_
   refine w_R ?_
   refine qm hnt rfl rfl ?_
   refine qm hnt rfl rfl ?_
   refine qo hnt rfl (s_shr16 (a := e1) 8 rfl rfl (by first|decide|omega) ?_)
   refine qo hnt rfl (s_conv168 (a := e1 >>> UInt16.ofNat 8) tab_25 tab_5 rfl rfl rfl ?_)
   refine qm hnt rfl rfl ?_
   refine qo hnt rfl (s_conv168 (a := e1) tab_25 tab_5 rfl rfl rfl ?_)
   refine qo hnt rfl (s_mkM (f := enc8) [(e1 >>> UInt16.ofNat 8).toUInt8,e1.toUInt8] tab_34 rfl tab_5 ⟨rfl,by decide⟩ (by decide) rfl rfl rfl rfl ?_)
   refine qo hnt rfl (s_appR0 (f := enc8) (l := os) (xs := [(e1 >>> UInt16.ofNat 8).toUInt8,e1.toUInt8]) tab_34 rfl tab_5 ⟨rfl,by decide,by decide⟩ (srcM tab_34 rfl (hM_ref0 (f := enc8) rfl rfl)) rfl rfl (by first|omega|(simp; omega)) ?_)
   refine qa hnt rfl rfl ?_
   refine r_set [(3,PV.ref 2 0 none),(10,pS 1 cl_l enc16 l),(11,pN l.length),(12,pN i)] [(2,oB true 1 enc8 (os ++ [(e1 >>> UInt16.ofNat 8).toUInt8,e1.toUInt8])),(1,oB true 1 enc8 [(e1 >>> UInt16.ofNat 8).toUInt8,e1.toUInt8])] 3 ⟨rfl,rfl,rfl,rfl,trivial⟩ rfl rfl ?_
   refine r_end ?_
   refine q_block ?_
   refine q_then ?_
   refine w_R ?_
   refine qo hnt rfl (s_addN (a := i) (b := 1) rfl rfl (by omega) (by omega) (by omega) ?_)
   refine qm hnt rfl rfl ?_
   refine r_end ?_
   refine q_then ?_
   refine ⟨(os ++ [(e1 >>> UInt16.ofNat 8).toUInt8,e1.toUInt8]),(i + 1), ?_, ?_,⟨[(0,2)],by rw [hk]; decide,⟨⟨_,rfl,rfl,rfl⟩,⟨_,rfl,rfl,rfl⟩,⟨_,rfl,rfl,rfl⟩,⟨_,rfl,rfl,rfl⟩,trivial⟩,⟨⟨_,_,rfl,rfl,rfl,rfl⟩,trivial⟩,by rw [hk]; decide⟩⟩
   ·
    exact ⟨by omega,by rw [bytesL_take he1,ho]⟩
   · omega
  ·
   have c1_ := c1
   try simp only [sB] at c1
   refine w_exit ?_
   refine q_then_exit ?_
   refine q_then_exit ?_
   refine q_block_exit ?_
   refine q_then ?_
   refine w_seq ?_
   refine w_R ?_
   refine qm hnt rfl rfl ?_
   refine qa hnt rfl rfl ?_
   refine r_end ?_
   refine q_then ?_
   refine w_H (H' := [(0,oB true 1 enc8 (bytesL l))]) (congrArg (fun z => ([(0,oB true 1 enc8 z)] : Heap)) (show os = bytesL l by rw [ho,List.take_of_length_le (by omega)])) ?_
   refine w_ret ?_
   exact fin_names (nx1 := 1) (H1 := [(0,oB true 1 enc8 (bytesL l))]) [(0,0)] (ret_tmp rfl ret_nil) rfl (by decide) ⟨⟨_,_,rfl,rfl,rfl,rfl⟩,trivial⟩ (by decide) rfl ⟨rfl,rfl,rfl⟩
theorem w_burgageref1_Bytes (l : List UInt16) (cl_l : Bool) (hl : l.length * 2 ≤ 140737488351232) :
    T Try.prog 78 [pS 1 cl_l enc16 l] 0 [] (Ret (PV.ref 0 0 none) 1 [(0,oB true 1 enc8 (bytesL l))]) := by
 refine t_fun tabOk (n := 22) (rs := [.tmp 2]) Try.func78 rfl rfl rfl rfl (Nat.le_of_ble_eq_true rfl) ?_
 intro c hnt hk
 refine w_seq ?_
 refine w_R ?_
 refine qa hnt rfl rfl ?_
 refine r_end ?_
 refine q_then ?_
 refine w_seq ?_
 refine w_R ?_
 refine qa hnt rfl rfl ?_
 refine r_end ?_
 refine q_then ?_
 refine w_seq ?_
 refine w_seq ?_
 refine w_R ?_
 refine qm hnt rfl rfl ?_
 refine qo hnt rfl (s_lenM (l := l) tab_24 rfl (hM_sl (f := enc16) rfl) ?_)
 refine qm hnt rfl rfl ?_
 refine r_end ?_
 refine q_then ?_
 refine w_block ?_
 refine w_adopt (s := 3) (sz := 1) rfl ?_
 refine loop2 (fun (os : List UInt8) (i : Nat) => i ≤ l.length ∧ os = bytesL (l.take i)) (fun (os : List UInt8) (i : Nat) => [(3,PV.ref 0 0 none),(6,pS 1 cl_l enc16 l),(7,pN l.length),(8,pN i)]) 1 (fun (os : List UInt8) (i : Nat) => [(0,oB true 1 enc8 os)]) (fun (os : List UInt8) (i : Nat) => l.length - i) (([] : List UInt8)) (0) ?_ ⟨[(0,0)],by rw [hk]; decide,⟨⟨_,rfl,rfl,rfl⟩,⟨_,rfl,rfl,rfl⟩,⟨_,rfl,rfl,rfl⟩,⟨_,rfl,rfl,rfl⟩,trivial⟩,⟨⟨_,_,rfl,rfl,rfl,rfl⟩,trivial⟩,by rw [hk]; decide⟩ ?_
 · exact ⟨Nat.zero_le _,rfl⟩
 ·
  intro os i hI
  obtain ⟨hi,ho⟩ := hI
  have hol : os.length = 2 * i := by rw [ho,bytesL_length,List.length_take]; omega
  refine w_seq ?_
  refine w_R ?_
  refine qo hnt rfl (s_lss rfl rfl ?_)
  refine r_end ?_
  refine q_then ?_
  refine w_seq ?_
  refine w_if rfl (fun c1 => ?_) (fun c1 => ?_)
  ·
   have c1_ := c1
   try simp only [sB] at c1
   refine w_skip ?_
   refine q_then ?_
   refine w_seq ?_
   refine w_block ?_
   refine w_seq ?_
   refine w_R ?_
   obtain ⟨e1,he1⟩ := get_of_lt l (i := i) (by omega)
   refine qo hnt rfl (s_iaM (q := i) (b := e1) (f := enc16) tab_24 rfl tab_25 rfl rfl (by omega) rfl he1 ?_)
   refine qo hnt rfl (s_load_ro1 tab_25 rfl rfl rfl rfl ?_)
   refine qa hnt rfl rfl ?_
   refine r_end ?_
   refine q_then ?_
   refine w_R ?_
   refine qm hnt rfl rfl ?_
   refine qm hnt rfl rfl ?_
   refine qo hnt rfl (s_shr16 (a := e1) 8 rfl rfl (by first|decide|omega) ?_)
   refine qo hnt rfl (s_conv168 (a := e1 >>> UInt16.ofNat 8) tab_25 tab_5 rfl rfl rfl ?_)
   refine qm hnt rfl rfl ?_
   refine qo hnt rfl (s_conv168 (a := e1) tab_25 tab_5 rfl rfl rfl ?_)
   refine qo hnt rfl (s_mkM (f := enc8) [(e1 >>> UInt16.ofNat 8).toUInt8,e1.toUInt8] tab_34 rfl tab_5 ⟨rfl,by decide⟩ (by decide) rfl rfl rfl rfl ?_)
   refine qo hnt rfl (s_appR0 (f := enc8) (l := os) (xs := [(e1 >>> UInt16.ofNat 8).toUInt8,e1.toUInt8]) tab_34 rfl tab_5 ⟨rfl,by decide,by decide⟩ (srcM tab_34 rfl (hM_ref0 (f := enc8) rfl rfl)) rfl rfl (by first|omega|(simp; omega)) ?_)
   refine qa hnt rfl rfl ?_
   refine r_set [(3,PV.ref 2 0 none),(6,pS 1 cl_l enc16 l),(7,pN l.length),(8,pN i)] [(2,oB true 1 enc8 (os ++ [(e1 >>> UInt16.ofNat 8).toUInt8,e1.toUInt8])),(1,oB true 1 enc8 [(e1 >>> UInt16.ofNat 8).toUInt8,e1.toUInt8])] 3 ⟨rfl,rfl,rfl,rfl,trivial⟩ rfl rfl ?_
   refine r_end ?_
   refine q_block ?_
   refine q_then ?_
   refine w_R ?_
   refine qo hnt rfl (s_addN (a := i) (b := 1) rfl rfl (by omega) (by omega) (by omega) ?_)
   refine qm hnt rfl rfl ?_
   refine r_end ?_
   refine q_then ?_
   refine ⟨(os ++ [(e1 >>> UInt16.ofNat 8).toUInt8,e1.toUInt8]),(i + 1), ?_, ?_,⟨[(0,2)],by rw [hk]; decide,⟨⟨_,rfl,rfl,rfl⟩,⟨_,rfl,rfl,rfl⟩,⟨_,rfl,rfl,rfl⟩,⟨_,rfl,rfl,rfl⟩,trivial⟩,⟨⟨_,_,rfl,rfl,rfl,rfl⟩,trivial⟩,by rw [hk]; decide⟩⟩
   ·
    exact ⟨by omega,by rw [bytesL_take he1,ho]⟩
   · omega
  ·
   have c1_ := c1
   try simp only [sB] at c1
   refine w_exit ?_
   refine q_then_exit ?_
   refine q_then_exit ?_
   refine q_block_exit ?_
   refine q_then ?_
   refine w_seq ?_
   refine w_R ?_
   refine qm hnt rfl rfl ?_
   refine qa hnt rfl rfl ?_
   refine r_end ?_
   refine q_then ?_
   refine w_H (H' := [(0,oB true 1 enc8 (bytesL l))]) (congrArg (fun z => ([(0,oB true 1 enc8 z)] : Heap)) (show os = bytesL l by rw [ho,List.take_of_length_le (by omega)])) ?_
   refine w_ret ?_
   exact fin_names (nx1 := 1) (H1 := [(0,oB true 1 enc8 (bytesL l))]) [(0,0)] (ret_tmp rfl ret_nil) rfl (by decide) ⟨⟨_,_,rfl,rfl,rfl,rfl⟩,trivial⟩ (by decide) rfl ⟨rfl,rfl,rfl⟩
theorem w_octet_Words (b : List UInt8) (cl_b : Bool) (hb : b.length ≤ 140737488351232) :
    T Try.prog 93 [pS 1 cl_b enc8 b] 0 [] (Ret (PV.tup [pS 1 false enc16 (wordsV b),pB (wordsOk b)]) 0 []) := by
 refine t_fun tabOk (n := 34) (rs := [.tmp 2,.tmp 3]) Try.func93 rfl rfl rfl rfl (Nat.le_of_ble_eq_true rfl) ?_
 intro c hnt hk
 refine w_seq ?_
 refine w_R ?_
 refine qa hnt rfl rfl ?_
 refine qa hnt rfl rfl ?_
 refine r_end ?_
 refine q_then ?_
 refine w_seq ?_
 refine w_seq ?_
 refine w_R ?_
 refine qm hnt rfl rfl ?_
 refine qo hnt rfl (s_lenM (l := b) tab_34 rfl (hM_sl (f := enc8) rfl) ?_)
 refine qo hnt rfl (s_remN (a := b.length) (b := 2) rfl rfl (by omega) (by omega) (by omega) ?_)
 refine qo hnt rfl (s_neq rfl rfl ?_)
 refine r_end ?_
 refine q_then ?_
 refine w_if rfl (fun c1 => ?_) (fun c1 => ?_)
 ·
  have c1_ := c1
  try simp only [sB] at c1
  have eo : wordsOk b = false := by unfold wordsOk; apply decide_eq_false; omega
  refine w_seq ?_
  refine w_R ?_
  refine qa hnt rfl rfl ?_
  refine qa hnt rfl rfl ?_
  refine r_end ?_
  refine q_then ?_
  refine w_le (s := 2) (y := pS 1 false enc16 []) rfl (le_nilS 1 false) ?_
  refine w_le (s := 2) (y := pS 1 false enc16 (wordsV b)) rfl (le_of_eq (congrArg (fun z => pS 1 false enc16 z) (show [] = (wordsV b) by first|exact eo.symm|(simp [wordsV,eo]; done)|(rw [wordsV,if_pos eo,ho,List.take_of_length_le (by omega)])))) ?_
  refine w_le (s := 3) (y := pB (wordsOk b)) rfl (le_of_eq (congrArg (fun z : Bool => pB z) (show false = (wordsOk b) by first|exact eo.symm|(simp [wordsV,eo]; done)|(rw [wordsV,if_pos eo,ho,List.take_of_length_le (by omega)])))) ?_
  refine w_ret ?_
  refine q_then_ret ?_
  exact fin_plain (ret_tmp rfl (ret_tmp rfl ret_nil)) rfl rfl ⟨rfl,rfl,rfl⟩
 ·
  have c1_ := c1
  try simp only [sB] at c1
  have hev : b.length % 2 = 0 := by omega
  have eo : wordsOk b = true := by unfold wordsOk; exact decide_eq_true hev
  refine w_skip ?_
  refine q_then ?_
  refine w_seq ?_
  refine w_R ?_
  refine qm hnt rfl rfl ?_
  refine qo hnt rfl (s_lenM (l := b) tab_34 rfl (hM_sl (f := enc8) rfl) ?_)
  refine qo hnt rfl (s_quoN (a := b.length) (b := 2) rfl rfl (by omega) (by omega) (by omega) ?_)
  refine qo hnt rfl (s_makeM (f := enc16) (bt := 2) tab_one (0 : UInt16) 0 (fun j hj => by cases hj; rfl) tab_24 rfl tab_25 ⟨rfl,by decide⟩ rfl rfl rfl (by omega) (by refine ⟨?_, ?_, ?_⟩ <;> omega) ?_)
  refine qa hnt rfl rfl ?_
  refine r_set [(0,pS 1 cl_b enc8 b),(4,PV.ref 0 0 none)] [(0,oB true 1 enc16 (List.replicate 0 (0 : UInt16)))] 1 ⟨rfl,rfl,trivial⟩ rfl rfl ?_
  refine r_end ?_
  refine q_then ?_
  refine w_seq ?_
  refine w_seq ?_
  refine w_R ?_
  refine qa hnt rfl rfl ?_
  refine r_end ?_
  refine q_then ?_
  refine w_block ?_
  refine loop2 (fun (os : List UInt16) (i : Nat) => i ≤ b.length ∧ i % 2 = 0 ∧ os = wordsL (b.take i)) (fun (os : List UInt16) (i : Nat) => [(0,pS 1 cl_b enc8 b),(4,PV.ref 0 0 none),(5,pN i)]) 1 (fun (os : List UInt16) (i : Nat) => [(0,oB true 1 enc16 os)]) (fun (os : List UInt16) (i : Nat) => b.length - i) (List.replicate 0 (0 : UInt16)) (0) ?_ ⟨[(0,0)],by rw [hk]; decide,⟨⟨_,rfl,rfl,rfl⟩,⟨_,rfl,rfl,rfl⟩,⟨_,rfl,rfl,rfl⟩,trivial⟩,⟨⟨_,_,rfl,rfl,rfl,rfl⟩,trivial⟩,by rw [hk]; decide⟩ ?_
  · exact ⟨Nat.zero_le _,rfl,rfl⟩
  ·
   intro os i hI
   obtain ⟨hi,hi2,ho⟩ := hI
   have hol : os.length = i / 2 := by rw [ho,wordsL_length,List.length_take]; omega
   refine w_seq ?_
   refine w_seq ?_
   refine w_R ?_
   refine qm hnt rfl rfl ?_
   refine qm hnt rfl rfl ?_
   refine qo hnt rfl (s_lenM (l := b) tab_34 rfl (hM_sl (f := enc8) rfl) ?_)
   refine qo hnt rfl (s_lss rfl rfl ?_)
   refine r_end ?_
   refine q_then ?_
   refine w_if rfl (fun c2 => ?_) (fun c2 => ?_)
   ·
    have c2_ := c2
    try simp only [sB] at c2
    refine w_skip ?_
    refine q_then ?_
    refine w_seq ?_
    refine w_block ?_
    refine w_seq ?_
    refine w_R ?_
    refine qm hnt rfl rfl ?_
    refine qm hnt rfl rfl ?_
    refine qo hnt rfl (s_callF rfl rfl rfl (w_octet_Get b cl_b ((i : Nat) : Int) (by first|omega|assumption|(simp; omega)|decide|(simp; done)) (by first|omega|assumption|(simp; omega)|decide|(simp; done))) rfl ?_)
    refine qm hnt rfl rfl ?_
    refine qo hnt rfl (s_extract rfl rfl ?_)
    refine qo hnt rfl (s_extract rfl rfl ?_)
    refine qa hnt rfl rfl ?_
    refine qa hnt rfl rfl ?_
    refine r_end ?_
    refine q_then ?_
    have hgo : getOk b (i : Int) = true := by unfold getOk; apply decide_eq_true; omega
    have hgv0 : getV b (i : Int) = (getN b i : Int) := by rw [getV,if_pos hgo,Int.toNat_natCast]
    refine w_eq (s := 6) (y := pN (getN b i)) rfl (congrArg (fun z : Int => pI z) (show (getV b ((i : Nat) : Int)) = ((getN b i : Nat) : Int) by exact hgv0)) ?_
    have hgv : UInt16.ofNat (getN b i) = UInt16.ofNat (getN b i) := rfl
    refine w_R ?_
    refine qm hnt rfl rfl ?_
    refine qm hnt rfl rfl ?_
    refine qo hnt rfl (s_cv16N (a := getN b i) tab_3 tab_25 rfl rfl rfl (by omega) ?_)
    refine qo hnt rfl (s_mkM (f := enc16) [UInt16.ofNat (getN b i)] tab_24 rfl tab_25 ⟨rfl,by decide⟩ (by decide) rfl rfl rfl rfl ?_)
    refine qo hnt rfl (s_appR0 (f := enc16) (l := os) (xs := [UInt16.ofNat (getN b i)]) tab_24 rfl tab_25 ⟨rfl,by decide,by decide⟩ (srcM tab_24 rfl (hM_ref0 (f := enc16) rfl rfl)) rfl rfl (by first|omega|(simp; omega)) ?_)
    refine qa hnt rfl rfl ?_
    refine r_set [(0,pS 1 cl_b enc8 b),(4,PV.ref 2 0 none),(5,pN i)] [(2,oB true 1 enc16 (os ++ [UInt16.ofNat (getN b i)])),(1,oB true 1 enc16 [UInt16.ofNat (getN b i)])] 3 ⟨rfl,rfl,rfl,trivial⟩ rfl rfl ?_
    refine r_end ?_
    refine q_block ?_
    refine q_then ?_
    refine w_R ?_
    refine qm hnt rfl rfl ?_
    refine qo hnt rfl (s_addN (a := i) (b := 2) rfl rfl (by omega) (by omega) (by omega) ?_)
    refine qa hnt rfl rfl ?_
    refine r_end ?_
    refine q_then ?_
    refine ⟨(os ++ [UInt16.ofNat (getN b i)]),(i + 2), ?_, ?_,⟨[(0,2)],by rw [hk]; decide,⟨⟨_,rfl,rfl,rfl⟩,⟨_,rfl,rfl,rfl⟩,⟨_,rfl,rfl,rfl⟩,trivial⟩,⟨⟨_,_,rfl,rfl,rfl,rfl⟩,trivial⟩,by rw [hk]; decide⟩⟩
    ·
     obtain ⟨x,hx⟩ := get_of_lt b (i := i) (by omega)
     obtain ⟨y,hy⟩ := get_of_lt b (i := i + 1) (by omega)
     refine ⟨by omega,by omega, ?_⟩
     rw [wordsL_take hi2 hx hy,ho,← w16_of,← getN_of hx hy,hgv]
    · omega
   ·
    have c2_ := c2
    try simp only [sB] at c2
    refine w_exit ?_
    refine q_then_exit ?_
    refine q_then_exit ?_
    refine q_block_exit ?_
    refine q_then ?_
    refine w_seq ?_
    refine w_R ?_
    refine qm hnt rfl rfl ?_
    refine qa hnt rfl rfl ?_
    refine qa hnt rfl rfl ?_
    refine r_end ?_
    refine q_then ?_
    refine w_frzM (s := 2) (f := enc16) rfl rfl view_0 ?_
    refine w_le (s := 2) (y := pS 1 false enc16 (wordsV b)) rfl (le_of_eq (congrArg (fun z => pS 1 false enc16 z) (show os = (wordsV b) by first|exact eo.symm|(simp [wordsV,eo]; done)|(rw [wordsV,if_pos eo,ho,List.take_of_length_le (by omega)])))) ?_
    refine w_le (s := 3) (y := pB (wordsOk b)) rfl (le_of_eq (congrArg (fun z : Bool => pB z) (show true = (wordsOk b) by first|exact eo.symm|(simp [wordsV,eo]; done)|(rw [wordsV,if_pos eo,ho,List.take_of_length_le (by omega)])))) ?_
    refine w_ret ?_
    exact fin_plain (ret_tmp rfl (ret_tmp rfl ret_nil)) rfl rfl ⟨rfl,rfl,rfl⟩
theorem w_burgageref1_Words (b : List UInt8) (cl_b : Bool) (hb : b.length ≤ 140737488351232) :
    T Try.prog 105 [pS 1 cl_b enc8 b] 0 [] (Ret (PV.tup [pS 1 false enc16 (wordsV b),pB (wordsOk b)]) 0 []) := by
 refine t_fun tabOk (n := 33) (rs := [.tmp 2,.tmp 3]) Try.func105 rfl rfl rfl rfl (Nat.le_of_ble_eq_true rfl) ?_
 intro c hnt hk
 refine w_seq ?_
 refine w_R ?_
 refine qa hnt rfl rfl ?_
 refine qa hnt rfl rfl ?_
 refine r_end ?_
 refine q_then ?_
 refine w_seq ?_
 refine w_seq ?_
 refine w_R ?_
 refine qm hnt rfl rfl ?_
 refine qo hnt rfl (s_lenM (l := b) tab_34 rfl (hM_sl (f := enc8) rfl) ?_)
 refine qo hnt rfl (s_remN (a := b.length) (b := 2) rfl rfl (by omega) (by omega) (by omega) ?_)
 refine qo hnt rfl (s_neq rfl rfl ?_)
 refine r_end ?_
 refine q_then ?_
 refine w_if rfl (fun c1 => ?_) (fun c1 => ?_)
 ·
  have c1_ := c1
  try simp only [sB] at c1
  have eo : wordsOk b = false := by unfold wordsOk; apply decide_eq_false; omega
  refine w_seq ?_
  refine w_R ?_
  refine qa hnt rfl rfl ?_
  refine qa hnt rfl rfl ?_
  refine r_end ?_
  refine q_then ?_
  refine w_le (s := 2) (y := pS 1 false enc16 []) rfl (le_nilS 1 false) ?_
  refine w_le (s := 2) (y := pS 1 false enc16 (wordsV b)) rfl (le_of_eq (congrArg (fun z => pS 1 false enc16 z) (show [] = (wordsV b) by first|exact eo.symm|(simp [wordsV,eo]; done)|(rw [wordsV,if_pos eo,ho,List.take_of_length_le (by omega)])))) ?_
  refine w_le (s := 3) (y := pB (wordsOk b)) rfl (le_of_eq (congrArg (fun z : Bool => pB z) (show false = (wordsOk b) by first|exact eo.symm|(simp [wordsV,eo]; done)|(rw [wordsV,if_pos eo,ho,List.take_of_length_le (by omega)])))) ?_
  refine w_ret ?_
  refine q_then_ret ?_
  exact fin_plain (ret_tmp rfl (ret_tmp rfl ret_nil)) rfl rfl ⟨rfl,rfl,rfl⟩
 ·
  have c1_ := c1
  try simp only [sB] at c1
  have hev : b.length % 2 = 0 := by omega
  have eo : wordsOk b = true := by unfold wordsOk; exact decide_eq_true hev
  refine w_skip ?_
  refine q_then ?_
  refine w_seq ?_
  refine w_R ?_
  refine qa hnt rfl rfl ?_
  refine r_end ?_
  refine q_then ?_
  refine w_seq ?_
  refine w_seq ?_
  refine w_R ?_
  refine qa hnt rfl rfl ?_
  refine r_end ?_
  refine q_then ?_
  refine w_block ?_
  refine w_adopt (s := 4) (sz := 1) rfl ?_
  refine loop2 (fun (os : List UInt16) (i : Nat) => i ≤ b.length ∧ i % 2 = 0 ∧ os = wordsL (b.take i)) (fun (os : List UInt16) (i : Nat) => [(0,pS 1 cl_b enc8 b),(4,PV.ref 0 0 none),(5,pN i)]) 1 (fun (os : List UInt16) (i : Nat) => [(0,oB true 1 enc16 os)]) (fun (os : List UInt16) (i : Nat) => b.length - i) (([] : List UInt16)) (0) ?_ ⟨[(0,0)],by rw [hk]; decide,⟨⟨_,rfl,rfl,rfl⟩,⟨_,rfl,rfl,rfl⟩,⟨_,rfl,rfl,rfl⟩,trivial⟩,⟨⟨_,_,rfl,rfl,rfl,rfl⟩,trivial⟩,by rw [hk]; decide⟩ ?_
  · exact ⟨Nat.zero_le _,rfl,rfl⟩
  ·
   intro os i hI
   obtain ⟨hi,hi2,ho⟩ := hI
   have hol : os.length = i / 2 := by rw [ho,wordsL_length,List.length_take]; omega
   refine w_seq ?_
   refine w_seq ?_
   refine w_R ?_
   refine qm hnt rfl rfl ?_
   refine qm hnt rfl rfl ?_
   refine qo hnt rfl (s_lenM (l := b) tab_34 rfl (hM_sl (f := enc8) rfl) ?_)
   refine qo hnt rfl (s_lss rfl rfl ?_)
   refine r_end ?_
   refine q_then ?_
   refine w_if rfl (fun c2 => ?_) (fun c2 => ?_)
   ·
    have c2_ := c2
    try simp only [sB] at c2
    refine w_skip ?_
    refine q_then ?_
    refine w_seq ?_
    refine w_block ?_
    refine W_drawn tabOk mixed hnt [[],[],[],[1,2],[1,2,3],[1,2,3,4],[1,2,3,4,5],[],[],[8],[7,8,9],[7,8,9,10],[7,8,9,10,11],[1,2,3,4,5,6,7,8,9,10,11,12],[1,2,3,4,5,6,7,8,9,10,11,12,13],[0,1,2,3,4,5,6,7,8,9,10,11,12,13,14],[0,1,2,3,4,5,6,7,8,9,10,11,12,13,14,15]] (by kernel_rfl) ?_
    refine d_op ?_
    refine x_run0 [(4,PV.ref 0 0 none)] [] rfl rfl rfl rfl (s_move rfl ⟨rfl,rfl,rfl⟩) ?_
    refine d_op ?_
    refine x_run0 [(0,pS 1 cl_b enc8 b)] [] rfl rfl rfl rfl (s_move rfl ⟨rfl,rfl,rfl⟩) ?_
    refine d_op ?_
    refine x_run0 [(5,pN i)] [] rfl rfl rfl rfl (s_move rfl ⟨rfl,rfl,rfl⟩) ?_
    refine d_op ?_
    obtain ⟨e1,he1⟩ := get_of_lt b (i := i) (by omega)
    refine x_run0 [(17,pS 1 cl_b enc8 b),(18,pN i)] [1,2] rfl rfl rfl rfl (s_iaM (q := i) (b := e1) (f := enc8) tab_34 rfl tab_5 rfl rfl (by omega) rfl he1 ⟨rfl,rfl,rfl⟩) ?_
    refine d_op ?_
    refine x_run0 [(19,PV.f (.ro (enc8 e1)))] [1,2,3] rfl rfl rfl rfl (s_load_ro1 tab_5 rfl rfl rfl rfl ⟨rfl,rfl,rfl⟩) ?_
    refine d_op ?_
    refine x_run0 [(20,p8 e1)] [1,2,3,4] rfl rfl rfl rfl (s_conv816 (a := e1) tab_5 tab_25 rfl rfl rfl ⟨rfl,rfl,rfl⟩) ?_
    refine d_op ?_
    refine x_run0 [(21,p16 e1.toUInt16)] [1,2,3,4,5] rfl rfl rfl rfl (s_shl16 (a := e1.toUInt16) 8 rfl rfl (by first|decide|omega) ⟨rfl,rfl,rfl⟩) ?_
    refine d_op ?_
    refine x_run0 [(0,pS 1 cl_b enc8 b)] [] rfl rfl rfl rfl (s_move rfl ⟨rfl,rfl,rfl⟩) ?_
    refine d_op ?_
    refine x_run0 [(5,pN i)] [] rfl rfl rfl rfl (s_move rfl ⟨rfl,rfl,rfl⟩) ?_
    refine d_op ?_
    refine x_run0 [(24,pN i)] [8] rfl rfl rfl rfl (s_addN (a := i) (b := 1) rfl rfl (by omega) (by omega) (by omega) ⟨rfl,rfl,rfl⟩) ?_
    refine d_op ?_
    obtain ⟨e2,he2⟩ := get_of_lt b (i := i + 1) (by omega)
    refine x_run0 [(23,pS 1 cl_b enc8 b),(25,pN (i + 1))] [7,8,9] rfl rfl rfl rfl (s_iaM (q := i + 1) (b := e2) (f := enc8) tab_34 rfl tab_5 rfl rfl (by omega) rfl he2 ⟨rfl,rfl,rfl⟩) ?_
    refine d_op ?_
    refine x_run0 [(26,PV.f (.ro (enc8 e2)))] [7,8,9,10] rfl rfl rfl rfl (s_load_ro1 tab_5 rfl rfl rfl rfl ⟨rfl,rfl,rfl⟩) ?_
    refine d_op ?_
    refine x_run0 [(27,p8 e2)] [7,8,9,10,11] rfl rfl rfl rfl (s_conv816 (a := e2) tab_5 tab_25 rfl rfl rfl ⟨rfl,rfl,rfl⟩) ?_
    refine d_op ?_
    refine x_run0 [(22,p16 (e1.toUInt16 <<< UInt16.ofNat 8)),(28,p16 e2.toUInt16)] [1,2,3,4,5,6,7,8,9,10,11,12] rfl rfl rfl rfl (s_or16 (a := e1.toUInt16 <<< UInt16.ofNat 8) (b := e2.toUInt16) rfl rfl ⟨rfl,rfl,rfl⟩) ?_
    refine d_op ?_
    refine x_run [(29,p16 ((e1.toUInt16 <<< UInt16.ofNat 8) ||| e2.toUInt16))] [1,2,3,4,5,6,7,8,9,10,11,12,13] [] [] [(1,oB true 1 enc16 [(e1.toUInt16 <<< UInt16.ofNat 8) ||| e2.toUInt16])] [(1,oB true 1 enc16 [(e1.toUInt16 <<< UInt16.ofNat 8) ||| e2.toUInt16])] [(1,oB true 1 enc16 [(e1.toUInt16 <<< UInt16.ofNat 8) ||| e2.toUInt16]),(0,oB true 1 enc16 os)] rfl rfl rfl rfl rfl rfl (s_mkM (f := enc16) [(e1.toUInt16 <<< UInt16.ofNat 8) ||| e2.toUInt16] tab_24 rfl tab_25 ⟨rfl,by decide⟩ (by decide) rfl rfl rfl rfl ⟨rfl,rfl,rfl⟩) rfl trivial rfl rfl ?_
    refine d_op ?_
    refine x_run [(16,PV.ref 0 0 none),(30,PV.ref 1 0 none)] [0,1,2,3,4,5,6,7,8,9,10,11,12,13,14] [(1,oB true 1 enc16 [(e1.toUInt16 <<< UInt16.ofNat 8) ||| e2.toUInt16])] [(0,oB true 1 enc16 os)] [(2,oB true 1 enc16 (os ++ [(e1.toUInt16 <<< UInt16.ofNat 8) ||| e2.toUInt16])),(1,oB true 1 enc16 [(e1.toUInt16 <<< UInt16.ofNat 8) ||| e2.toUInt16])] [(2,oB true 1 enc16 (os ++ [(e1.toUInt16 <<< UInt16.ofNat 8) ||| e2.toUInt16]))] [(2,oB true 1 enc16 (os ++ [(e1.toUInt16 <<< UInt16.ofNat 8) ||| e2.toUInt16])),(1,oB true 1 enc16 [(e1.toUInt16 <<< UInt16.ofNat 8) ||| e2.toUInt16])] rfl rfl rfl rfl rfl rfl (s_appR0 (f := enc16) (l := os) (xs := [(e1.toUInt16 <<< UInt16.ofNat 8) ||| e2.toUInt16]) tab_24 rfl tab_25 ⟨rfl,by decide,by decide⟩ (srcM tab_24 rfl (hM_ref0 (f := enc16) rfl rfl)) rfl rfl (by first|omega|(simp; omega)) ⟨rfl,rfl,rfl⟩) rfl ⟨rfl,trivial⟩ rfl rfl ?_
    refine d_op ?_
    refine x_run0 [(31,PV.ref 2 0 none)] [0,1,2,3,4,5,6,7,8,9,10,11,12,13,14,15] rfl rfl rfl rfl (s_assign rfl ⟨rfl,rfl,rfl⟩) ?_
    refine d_end ⟨by kernel_rfl, ?_⟩
    refine q_block ?_
    refine q_then ?_
    refine w_R ?_
    refine qm hnt rfl rfl ?_
    refine qo hnt rfl (s_addN (a := i) (b := 2) rfl rfl (by omega) (by omega) (by omega) ?_)
    refine qa hnt rfl rfl ?_
    refine r_end ?_
    refine q_then ?_
    refine ⟨(os ++ [(e1.toUInt16 <<< UInt16.ofNat 8) ||| e2.toUInt16]),(i + 2), ?_, ?_,⟨[(0,2)],by rw [hk]; decide,⟨⟨_,rfl,rfl,rfl⟩,⟨_,rfl,rfl,rfl⟩,⟨_,rfl,rfl,rfl⟩,trivial⟩,⟨⟨_,_,rfl,rfl,rfl,rfl⟩,trivial⟩,by rw [hk]; decide⟩⟩
    ·
     refine ⟨by omega,by omega, ?_⟩
     rw [wordsL_take hi2 he1 he2,ho]; rfl
    · omega
   ·
    have c2_ := c2
    try simp only [sB] at c2
    refine w_exit ?_
    refine q_then_exit ?_
    refine q_then_exit ?_
    refine q_block_exit ?_
    refine q_then ?_
    refine w_seq ?_
    refine w_R ?_
    refine qm hnt rfl rfl ?_
    refine qa hnt rfl rfl ?_
    refine qa hnt rfl rfl ?_
    refine r_end ?_
    refine q_then ?_
    refine w_frzM (s := 2) (f := enc16) rfl rfl view_0 ?_
    refine w_le (s := 2) (y := pS 1 false enc16 (wordsV b)) rfl (le_of_eq (congrArg (fun z => pS 1 false enc16 z) (show os = (wordsV b) by first|exact eo.symm|(simp [wordsV,eo]; done)|(rw [wordsV,if_pos eo,ho,List.take_of_length_le (by omega)])))) ?_
    refine w_le (s := 3) (y := pB (wordsOk b)) rfl (le_of_eq (congrArg (fun z : Bool => pB z) (show true = (wordsOk b) by first|exact eo.symm|(simp [wordsV,eo]; done)|(rw [wordsV,if_pos eo,ho,List.take_of_length_le (by omega)])))) ?_
    refine w_ret ?_
    exact fin_plain (ret_tmp rfl (ret_tmp rfl ret_nil)) rfl rfl ⟨rfl,rfl,rfl⟩
theorem w_octet_Open_s (b : List UInt8) (cl_b : Bool) (n : Int) (hb : b.length ≤ 140737488355328) (hn : n ≤ 140737488351232) :
    T Try.prog 82 [pS 1 cl_b enc8 b,pI n] 0 [] (Ret (PV.tup [pS 1 false encBo (bopV b n),pB (bopOk b n)]) 0 []) := by
 refine t_fun tabOk (n := 53) (rs := [.tmp 4,.tmp 5]) Try.func82 rfl rfl rfl rfl (Nat.le_of_ble_eq_true rfl) ?_
 intro c hnt hk
 refine w_seq ?_
 refine w_R ?_
 refine qa hnt rfl rfl ?_
 refine qa hnt rfl rfl ?_
 refine r_end ?_
 refine q_then ?_
 refine w_seq ?_
 refine w_seq ?_
 refine w_R ?_
 refine qm hnt rfl rfl ?_
 refine qo hnt rfl (s_lss rfl rfl ?_)
 refine qm hnt rfl rfl ?_
 refine r_if tabOk hnt rfl rfl rfl (fun g1 => ?_) (fun g1 => ?_)
 ·
  have g1' := g1
  try simp only [sB] at g1'
  obtain ⟨kn,hkn⟩ : ∃ kn : Nat,n = (kn : Int) := ⟨n.toNat,by omega⟩
  refine r_eq (s := 1) (y := pN kn) rfl (congrArg (fun z : Int => pI z) (show n = ((kn : Nat) : Int) by exact hkn)) ?_
  refine qm hnt rfl rfl ?_
  refine ry hnt rfl rfl rfl g1 ?_
  refine qm hnt rfl rfl ?_
  refine ry hnt rfl rfl rfl g1 ?_
  refine qo hnt rfl (s_lenM (l := b) tab_34 rfl (hM_sl (f := enc8) rfl) ?_)
  refine ry hnt rfl rfl rfl g1 ?_
  refine qo hnt rfl (s_mulN (a := b.length) (b := 8) rfl rfl (by omega) (by omega) (by omega) ?_)
  refine ry hnt rfl rfl rfl g1 ?_
  refine qo hnt rfl (s_gtr rfl rfl ?_)
  refine qo hnt rfl (s_pick_f rfl g1 rfl ?_)
  refine qm hnt rfl rfl ?_
  refine r_if tabOk hnt rfl rfl rfl (fun g2 => ?_) (fun g2 => ?_)
  ·
   have g2' := g2
   try simp only [sB] at g2'
   refine qm hnt rfl rfl ?_
   refine ry hnt rfl rfl rfl g2 ?_
   refine qo hnt rfl (s_addN (a := kn) (b := 8) rfl rfl (by omega) (by omega) (by omega) ?_)
   refine ry hnt rfl rfl rfl g2 ?_
   refine qo hnt rfl (s_subN (a := kn + 8) (b := 1) rfl rfl (by omega) (by omega) (by omega) ?_)
   refine ry hnt rfl rfl rfl g2 ?_
   refine qo hnt rfl (s_quoN (a := kn + 8 - 1) (b := 8) rfl rfl (by omega) (by omega) (by omega) ?_)
   refine ry hnt rfl rfl rfl g2 ?_
   refine qm hnt rfl rfl ?_
   refine ry hnt rfl rfl rfl g2 ?_
   refine qo hnt rfl (s_lenM (l := b) tab_34 rfl (hM_sl (f := enc8) rfl) ?_)
   refine ry hnt rfl rfl rfl g2 ?_
   refine qo hnt rfl (s_neq rfl rfl ?_)
   refine qo hnt rfl (s_pick_f rfl g2 rfl ?_)
   refine r_end ?_
   refine q_then ?_
   refine w_if rfl (fun c1 => ?_) (fun c1 => ?_)
   ·
    have c1_ := c1
    try simp only [sB] at c1
    have eo : bopOk b n = false := bopOk_no (by omega)
    refine w_seq ?_
    refine w_R ?_
    refine qa hnt rfl rfl ?_
    refine qa hnt rfl rfl ?_
    refine r_end ?_
    refine q_then ?_
    refine w_le (s := 4) (y := pS 1 false encBo []) rfl (le_nilS 1 false) ?_
    refine w_le (s := 4) (y := pS 1 false encBo (bopV b n)) rfl (le_of_eq (congrArg (fun z => pS 1 false encBo z) (show [] = (bopV b n) by first|exact eo.symm|(simp [bopV,eo]; done)|(rw [hkn,bopV_nat (by rw [← hkn]; exact eo),hoe])))) ?_
    refine w_le (s := 5) (y := pB (bopOk b n)) rfl (le_of_eq (congrArg (fun z : Bool => pB z) (show false = (bopOk b n) by first|exact eo.symm|(simp [bopV,eo]; done)|(rw [hkn,bopV_nat (by rw [← hkn]; exact eo),hoe])))) ?_
    refine w_ret ?_
    refine q_then_ret ?_
    exact fin_plain (ret_tmp rfl (ret_tmp rfl ret_nil)) rfl rfl ⟨rfl,rfl,rfl⟩
   ·
    have c1_ := c1
    try simp only [sB] at c1
    have hlen : (kn + 7) / 8 = b.length := by omega
    have hbd : kn ≤ 8 * b.length := by omega
    refine w_skip ?_
    refine q_then ?_
    refine w_seq ?_
    refine w_R ?_
    refine qm hnt rfl rfl ?_
    refine qo hnt rfl (s_makeM (f := encBo) (bt := 1) tab_one false kn (fun j hj => by cases hj; rfl) tab_23 rfl tab_4 ⟨rfl,by decide⟩ rfl rfl rfl (by omega) (by refine ⟨?_, ?_, ?_⟩ <;> omega) ?_)
    refine qa hnt rfl rfl ?_
    refine r_set [(0,pS 1 cl_b enc8 b),(6,PV.ref 0 0 none)] [(0,oB true 1 encBo (List.replicate kn false))] 1 ⟨rfl,rfl,trivial⟩ rfl rfl ?_
    refine r_end ?_
    refine q_then ?_
    refine w_seq ?_
    refine w_seq ?_
    refine w_R ?_
    refine qm hnt rfl rfl ?_
    refine qo hnt rfl (s_lenM (l := List.replicate kn false) tab_23 rfl (hM_ref0 (f := encBo) rfl rfl) ?_)
    refine qm hnt rfl rfl ?_
    refine r_end ?_
    refine q_then ?_
    refine w_block ?_
    refine loop2 (fun (os : List Bool) (i : Nat) => i ≤ kn ∧ os = openT b kn i) (fun (os : List Bool) (i : Nat) => [(0,pS 1 cl_b enc8 b),(6,PV.ref 0 0 none),(29,pN ((List.replicate kn false).length)),(30,pN i)]) 1 (fun (os : List Bool) (i : Nat) => [(0,oB true 1 encBo os)]) (fun (os : List Bool) (i : Nat) => kn - i) (List.replicate kn false) (0) ?_ ⟨[(0,0)],by rw [hk]; decide,⟨⟨_,rfl,rfl,rfl⟩,⟨_,rfl,rfl,rfl⟩,⟨_,rfl,rfl,rfl⟩,⟨_,rfl,rfl,rfl⟩,trivial⟩,⟨⟨_,_,rfl,rfl,rfl,rfl⟩,trivial⟩,by rw [hk]; decide⟩ ?_
    · exact ⟨Nat.zero_le _,by rw [openT_zero]⟩
    ·
     intro os i hI
     obtain ⟨hi,ho⟩ := hI
     have hol : os.length = kn := by rw [ho,openT_length]
     refine w_seq ?_
     refine w_R ?_
     refine qo hnt rfl (s_lss rfl rfl ?_)
     refine r_end ?_
     refine q_then ?_
     refine w_seq ?_
     refine w_if rfl (fun c2 => ?_) (fun c2 => ?_)
     ·
      have c2_ := c2
      try simp only [sB] at c2
      rw [List.length_replicate] at c2
      refine w_skip ?_
      refine q_then ?_
      refine w_seq ?_
      refine w_block ?_
      refine w_seq ?_
      refine w_R ?_
      refine qm hnt rfl rfl ?_
      refine qa hnt rfl rfl ?_
      refine r_end ?_
      refine q_then ?_
      refine w_R ?_
      refine qm hnt rfl rfl ?_
      refine qm hnt rfl rfl ?_
      refine qm hnt rfl rfl ?_
      refine qm hnt rfl rfl ?_
      refine qo hnt rfl (s_quoN (a := i) (b := 8) rfl rfl (by omega) (by omega) (by omega) ?_)
      obtain ⟨e1,he1⟩ := get_of_lt b (i := i / 8) (by omega)
      refine qo hnt rfl (s_iaM (q := i / 8) (b := e1) (f := enc8) tab_34 rfl tab_5 rfl rfl (by omega) rfl he1 ?_)
      refine qo hnt rfl (s_load_ro1 tab_5 rfl rfl rfl rfl ?_)
      refine qm hnt rfl rfl ?_
      refine qo hnt rfl (s_remN (a := i) (b := 8) rfl rfl (by omega) (by omega) (by omega) ?_)
      refine qo hnt rfl (s_shr8 (a := e1) (i % 8) rfl rfl (by first|rfl|omega) (by first|decide|omega) ?_)
      refine qo hnt rfl (s_and8 (a := e1 >>> UInt8.ofNat (i % 8)) (b := 1) rfl rfl ?_)
      refine qo hnt rfl (s_eql8 (a := (e1 >>> UInt8.ofNat (i % 8)) &&& 1) (b := 1) rfl rfl ?_)
      refine qo hnt rfl (s_iaR0 (q := i) (f := encBo) (l := os) tab_23 rfl tab_4 rfl rfl (by omega) rfl rfl (by omega) ?_)
      obtain ⟨e2,he2⟩ := get_of_lt os (i := i) (by omega)
      refine qo hnt rfl (s_stM (y0 := e2) (z := decide ((e1 >>> UInt8.ofNat (i % 8)) &&& 1 = 1)) (f := encBo) tab_4 rfl rfl rfl rfl rfl he2 (Nat.le_of_ble_eq_true rfl) rfl rfl (by simp) rfl ?_)
      refine r_set [(0,pS 1 cl_b enc8 b),(6,PV.ref 0 0 none),(29,pN ((List.replicate kn false).length)),(30,pN i)] [(0,oB true 1 encBo (os.set i (decide ((e1 >>> UInt8.ofNat (i % 8)) &&& 1 = 1))))] 1 ⟨rfl,rfl,rfl,rfl,trivial⟩ rfl rfl ?_
      refine r_end ?_
      refine q_block ?_
      refine q_then ?_
      refine w_R ?_
      refine qo hnt rfl (s_addN (a := i) (b := 1) rfl rfl (by omega) (by omega) (by omega) ?_)
      refine qm hnt rfl rfl ?_
      refine r_end ?_
      refine q_then ?_
      refine ⟨(os.set i (decide ((e1 >>> UInt8.ofNat (i % 8)) &&& 1 = 1))),(i + 1), ?_, ?_,⟨[(0,0)],by rw [hk]; decide,⟨⟨_,rfl,rfl,rfl⟩,⟨_,rfl,rfl,rfl⟩,⟨_,rfl,rfl,rfl⟩,⟨_,rfl,rfl,rfl⟩,trivial⟩,⟨⟨_,_,rfl,rfl,rfl,rfl⟩,trivial⟩,by rw [hk]; decide⟩⟩
      ·
       refine ⟨by omega, ?_⟩
       rw [← bitOf_of he1,ho,openT_set]
      · omega
     ·
      have c2_ := c2
      try simp only [sB] at c2
      rw [List.length_replicate] at c2
      have hoe : os = (List.range kn).map (bitOf b) := by rw [ho,show i = kn by omega,openT_end]
      refine w_exit ?_
      refine q_then_exit ?_
      refine q_then_exit ?_
      refine q_block_exit ?_
      refine q_then ?_
      refine w_seq ?_
      refine w_seq ?_
      refine w_R ?_
      refine qm hnt rfl rfl ?_
      refine qo hnt rfl (s_callX (r2 := PV.ref 1 0 none) (nx1 := 2) (H2 := [(0,oB false 1 encBo os)]) (H3 := [(1,oB true 1 enc8 (packL os)),(0,oB false 1 encBo os)]) [] [] rfl rfl rfl (handed_of (by decide) trivial) rfl rfl rfl rfl rfl rfl (w_octet_Pack os false (by first|omega|assumption|(simp; omega)|decide|(simp; done))) rfl (dist_of rfl) rfl rfl rfl rfl ?_)
      refine qm hnt rfl rfl ?_
      refine qo hnt rfl (s_callX (r2 := pB (decide ((packL os) = b))) (nx1 := 2) (H2 := [(1,oB false 1 enc8 (packL os)),(0,oB false 1 encBo os)]) (H3 := [(1,oB false 1 enc8 (packL os)),(0,oB false 1 encBo os)]) [] [] rfl rfl rfl (handed_of (by decide) trivial) rfl rfl rfl rfl rfl rfl (w_slices_Equal_byte_byte (packL os) false b cl_b (by first|omega|assumption|(simp; omega)|decide|(simp; done))) rfl (dist_of rfl) rfl rfl rfl rfl ?_)
      refine qo hnt rfl (s_not rfl ?_)
      refine r_set [(6,PV.ref 0 0 none),(51,pB (!(decide ((packL os) = b))))] [(1,oB false 1 enc8 (packL os)),(0,oB false 1 encBo os)] 2 ⟨rfl,rfl,trivial⟩ rfl rfl ?_
      refine r_end ?_
      refine q_then ?_
      refine w_if rfl (fun c3 => ?_) (fun c3 => ?_)
      ·
       have c3_ := c3
       try simp only [sB] at c3
       have eo : bopOk b n = false := by rw [hkn,bopOk_nat ⟨hbd,hlen⟩]; exact decide_eq_false fun h => c3 (by rw [hoe]; exact (pack_bits hlen).2 h)
       refine w_seq ?_
       refine w_R ?_
       refine qa hnt rfl rfl ?_
       refine qa hnt rfl rfl ?_
       refine r_end ?_
       refine q_then ?_
       refine w_le (s := 4) (y := pS 1 false encBo []) rfl (le_nilS 1 false) ?_
       refine w_le (s := 4) (y := pS 1 false encBo (bopV b n)) rfl (le_of_eq (congrArg (fun z => pS 1 false encBo z) (show [] = (bopV b n) by first|exact eo.symm|(simp [bopV,eo]; done)|(rw [hkn,bopV_nat (by rw [← hkn]; exact eo),hoe])))) ?_
       refine w_le (s := 5) (y := pB (bopOk b n)) rfl (le_of_eq (congrArg (fun z : Bool => pB z) (show false = (bopOk b n) by first|exact eo.symm|(simp [bopV,eo]; done)|(rw [hkn,bopV_nat (by rw [← hkn]; exact eo),hoe])))) ?_
       refine w_ret ?_
       refine q_then_ret ?_
       exact fin_plain (ret_tmp rfl (ret_tmp rfl ret_nil)) rfl rfl ⟨rfl,rfl,rfl⟩
      ·
       have c3_ := c3
       try simp only [sB] at c3
       have eo : bopOk b n = true := by rw [hkn,bopOk_nat ⟨hbd,hlen⟩]; exact decide_eq_true ((pack_bits hlen).1 (by rw [← hoe]; simpa using c3))
       refine w_skip ?_
       refine q_then ?_
       refine w_seq ?_
       refine w_R ?_
       refine qm hnt rfl rfl ?_
       refine qa hnt rfl rfl ?_
       refine qa hnt rfl rfl ?_
       refine r_end ?_
       refine q_then ?_
       refine w_frzM (s := 4) (f := encBo) rfl rfl view_0 ?_
       refine w_le (s := 4) (y := pS 1 false encBo (bopV b n)) rfl (le_of_eq (congrArg (fun z => pS 1 false encBo z) (show os = (bopV b n) by first|exact eo.symm|(simp [bopV,eo]; done)|(rw [hkn,bopV_nat (by rw [← hkn]; exact eo),hoe])))) ?_
       refine w_le (s := 5) (y := pB (bopOk b n)) rfl (le_of_eq (congrArg (fun z : Bool => pB z) (show true = (bopOk b n) by first|exact eo.symm|(simp [bopV,eo]; done)|(rw [hkn,bopV_nat (by rw [← hkn]; exact eo),hoe])))) ?_
       refine w_ret ?_
       exact fin_plain (ret_tmp rfl (ret_tmp rfl ret_nil)) rfl rfl ⟨rfl,rfl,rfl⟩
  ·
   have g2' := g2
   try simp only [sB] at g2'
   have eo : bopOk b n = false := bopOk_no (by omega)
   refine rn hnt rfl rfl rfl g2 ?_
   refine rn hnt rfl rfl rfl g2 ?_
   refine rn hnt rfl rfl rfl g2 ?_
   refine rn hnt rfl rfl rfl g2 ?_
   refine rn hnt rfl rfl rfl g2 ?_
   refine rn hnt rfl rfl rfl g2 ?_
   refine qo hnt rfl (s_pick_t rfl g2 rfl ?_)
   refine r_end ?_
   refine q_then ?_
   refine w_if rfl (fun _ => ?_) (fun e => absurd e (by decide))
   refine w_seq ?_
   refine w_R ?_
   refine qa hnt rfl rfl ?_
   refine qa hnt rfl rfl ?_
   refine r_end ?_
   refine q_then ?_
   refine w_le (s := 4) (y := pS 1 false encBo []) rfl (le_nilS 1 false) ?_
   refine w_le (s := 4) (y := pS 1 false encBo (bopV b n)) rfl (le_of_eq (congrArg (fun z => pS 1 false encBo z) (show [] = (bopV b n) by first|exact eo.symm|(simp [bopV,eo]; done)|(rw [hkn,bopV_nat (by rw [← hkn]; exact eo),hoe])))) ?_
   refine w_le (s := 5) (y := pB (bopOk b n)) rfl (le_of_eq (congrArg (fun z : Bool => pB z) (show false = (bopOk b n) by first|exact eo.symm|(simp [bopV,eo]; done)|(rw [hkn,bopV_nat (by rw [← hkn]; exact eo),hoe])))) ?_
   refine w_ret ?_
   refine q_then_ret ?_
   exact fin_plain (ret_tmp rfl (ret_tmp rfl ret_nil)) rfl rfl ⟨rfl,rfl,rfl⟩
 ·
  have g1' := g1
  try simp only [sB] at g1'
  have eo : bopOk b n = false := bopOk_no (by omega)
  refine rn hnt rfl rfl rfl g1 ?_
  refine rn hnt rfl rfl rfl g1 ?_
  refine rn hnt rfl rfl rfl g1 ?_
  refine rn hnt rfl rfl rfl g1 ?_
  refine qo hnt rfl (s_pick_t rfl g1 rfl ?_)
  refine qm hnt rfl rfl ?_
  refine rn hnt rfl rfl rfl rfl ?_
  refine rn hnt rfl rfl rfl rfl ?_
  refine rn hnt rfl rfl rfl rfl ?_
  refine rn hnt rfl rfl rfl rfl ?_
  refine rn hnt rfl rfl rfl rfl ?_
  refine rn hnt rfl rfl rfl rfl ?_
  refine rn hnt rfl rfl rfl rfl ?_
  refine qo hnt rfl (s_pick_t rfl rfl rfl ?_)
  refine r_end ?_
  refine q_then ?_
  refine w_if rfl (fun _ => ?_) (fun e => absurd e (by decide))
  refine w_seq ?_
  refine w_R ?_
  refine qa hnt rfl rfl ?_
  refine qa hnt rfl rfl ?_
  refine r_end ?_
  refine q_then ?_
  refine w_le (s := 4) (y := pS 1 false encBo []) rfl (le_nilS 1 false) ?_
  refine w_le (s := 4) (y := pS 1 false encBo (bopV b n)) rfl (le_of_eq (congrArg (fun z => pS 1 false encBo z) (show [] = (bopV b n) by first|exact eo.symm|(simp [bopV,eo]; done)|(rw [hkn,bopV_nat (by rw [← hkn]; exact eo),hoe])))) ?_
  refine w_le (s := 5) (y := pB (bopOk b n)) rfl (le_of_eq (congrArg (fun z : Bool => pB z) (show false = (bopOk b n) by first|exact eo.symm|(simp [bopV,eo]; done)|(rw [hkn,bopV_nat (by rw [← hkn]; exact eo),hoe])))) ?_
  refine w_ret ?_
  refine q_then_ret ?_
  exact fin_plain (ret_tmp rfl (ret_tmp rfl ret_nil)) rfl rfl ⟨rfl,rfl,rfl⟩
theorem w_burgageref1_Open_s (b : List UInt8) (cl_b : Bool) (n : Int) (hb : b.length ≤ 140737488355328) (hn : n ≤ 140737488351232) :
    T Try.prog 91 [pS 1 cl_b enc8 b,pI n] 0 [] (Ret (PV.tup [pS 1 false encBo (bopV b n),pB (bopOk b n)]) 0 []) := by
 refine t_fun tabOk (n := 53) (rs := [.tmp 4,.tmp 5]) Try.func91 rfl rfl rfl rfl (Nat.le_of_ble_eq_true rfl) ?_
 intro c hnt hk
 refine w_seq ?_
 refine w_R ?_
 refine qa hnt rfl rfl ?_
 refine qa hnt rfl rfl ?_
 refine r_end ?_
 refine q_then ?_
 refine w_seq ?_
 refine w_seq ?_
 refine w_R ?_
 refine qm hnt rfl rfl ?_
 refine qo hnt rfl (s_lss rfl rfl ?_)
 refine qm hnt rfl rfl ?_
 refine r_if tabOk hnt rfl rfl rfl (fun g1 => ?_) (fun g1 => ?_)
 ·
  have g1' := g1
  try simp only [sB] at g1'
  obtain ⟨kn,hkn⟩ : ∃ kn : Nat,n = (kn : Int) := ⟨n.toNat,by omega⟩
  refine r_eq (s := 1) (y := pN kn) rfl (congrArg (fun z : Int => pI z) (show n = ((kn : Nat) : Int) by exact hkn)) ?_
  refine qm hnt rfl rfl ?_
  refine ry hnt rfl rfl rfl g1 ?_
  refine qm hnt rfl rfl ?_
  refine ry hnt rfl rfl rfl g1 ?_
  refine qo hnt rfl (s_lenM (l := b) tab_34 rfl (hM_sl (f := enc8) rfl) ?_)
  refine ry hnt rfl rfl rfl g1 ?_
  refine qo hnt rfl (s_mulN (a := 8) (b := b.length) rfl rfl (by omega) (by omega) (by omega) ?_)
  refine ry hnt rfl rfl rfl g1 ?_
  refine qo hnt rfl (s_gtr rfl rfl ?_)
  refine qo hnt rfl (s_pick_f rfl g1 rfl ?_)
  refine qm hnt rfl rfl ?_
  refine r_if tabOk hnt rfl rfl rfl (fun g2 => ?_) (fun g2 => ?_)
  ·
   have g2' := g2
   try simp only [sB] at g2'
   refine qm hnt rfl rfl ?_
   refine ry hnt rfl rfl rfl g2 ?_
   refine qo hnt rfl (s_lenM (l := b) tab_34 rfl (hM_sl (f := enc8) rfl) ?_)
   refine ry hnt rfl rfl rfl g2 ?_
   refine qm hnt rfl rfl ?_
   refine ry hnt rfl rfl rfl g2 ?_
   refine qo hnt rfl (s_addN (a := kn) (b := 7) rfl rfl (by omega) (by omega) (by omega) ?_)
   refine ry hnt rfl rfl rfl g2 ?_
   refine qo hnt rfl (s_quoN (a := kn + 7) (b := 8) rfl rfl (by omega) (by omega) (by omega) ?_)
   refine ry hnt rfl rfl rfl g2 ?_
   refine qo hnt rfl (s_neq rfl rfl ?_)
   refine qo hnt rfl (s_pick_f rfl g2 rfl ?_)
   refine r_end ?_
   refine q_then ?_
   refine w_if rfl (fun c1 => ?_) (fun c1 => ?_)
   ·
    have c1_ := c1
    try simp only [sB] at c1
    have eo : bopOk b n = false := bopOk_no (by omega)
    refine w_seq ?_
    refine w_R ?_
    refine qa hnt rfl rfl ?_
    refine qa hnt rfl rfl ?_
    refine r_end ?_
    refine q_then ?_
    refine w_le (s := 4) (y := pS 1 false encBo []) rfl (le_nilS 1 false) ?_
    refine w_le (s := 4) (y := pS 1 false encBo (bopV b n)) rfl (le_of_eq (congrArg (fun z => pS 1 false encBo z) (show [] = (bopV b n) by first|exact eo.symm|(simp [bopV,eo]; done)|(rw [hkn,bopV_nat (by rw [← hkn]; exact eo),hoe])))) ?_
    refine w_le (s := 5) (y := pB (bopOk b n)) rfl (le_of_eq (congrArg (fun z : Bool => pB z) (show false = (bopOk b n) by first|exact eo.symm|(simp [bopV,eo]; done)|(rw [hkn,bopV_nat (by rw [← hkn]; exact eo),hoe])))) ?_
    refine w_ret ?_
    refine q_then_ret ?_
    exact fin_plain (ret_tmp rfl (ret_tmp rfl ret_nil)) rfl rfl ⟨rfl,rfl,rfl⟩
   ·
    have c1_ := c1
    try simp only [sB] at c1
    have hlen : (kn + 7) / 8 = b.length := by omega
    have hbd : kn ≤ 8 * b.length := by omega
    refine w_skip ?_
    refine q_then ?_
    refine w_seq ?_
    refine w_R ?_
    refine qa hnt rfl rfl ?_
    refine r_end ?_
    refine q_then ?_
    refine w_seq ?_
    refine w_seq ?_
    refine w_R ?_
    refine qa hnt rfl rfl ?_
    refine r_end ?_
    refine q_then ?_
    refine w_block ?_
    refine w_adopt (s := 6) (sz := 1) rfl ?_
    refine loop2 (fun (os : List Bool) (i : Nat) => i ≤ 8 * b.length ∧ os = (List.range (min i kn)).map (bitOf b) ∧ ∀ j,j < i → kn ≤ j → bitOf b j = false) (fun (os : List Bool) (i : Nat) => [(0,pS 1 cl_b enc8 b),(1,pN kn),(6,PV.ref 0 0 none),(7,pN i)]) 1 (fun (os : List Bool) (i : Nat) => [(0,oB true 1 encBo os)]) (fun (os : List Bool) (i : Nat) => 8 * b.length - i) (([] : List Bool)) (0) ?_ ⟨[(0,0)],by rw [hk]; decide,⟨⟨_,rfl,rfl,rfl⟩,⟨_,rfl,rfl,rfl⟩,⟨_,rfl,rfl,rfl⟩,⟨_,rfl,rfl,rfl⟩,trivial⟩,⟨⟨_,_,rfl,rfl,rfl,rfl⟩,trivial⟩,by rw [hk]; decide⟩ ?_
    · exact ⟨Nat.zero_le _,by simp,fun j hj => by omega⟩
    ·
     intro os i hI
     obtain ⟨hi,ho,hz⟩ := hI
     have hol : os.length ≤ i := by rw [ho]; simp; omega
     refine w_seq ?_
     refine w_seq ?_
     refine w_R ?_
     refine qm hnt rfl rfl ?_
     refine qm hnt rfl rfl ?_
     refine qo hnt rfl (s_lenM (l := b) tab_34 rfl (hM_sl (f := enc8) rfl) ?_)
     refine qo hnt rfl (s_mulN (a := 8) (b := b.length) rfl rfl (by omega) (by omega) (by omega) ?_)
     refine qo hnt rfl (s_lss rfl rfl ?_)
     refine r_end ?_
     refine q_then ?_
     refine w_if rfl (fun c2 => ?_) (fun c2 => ?_)
     ·
      have c2_ := c2
      try simp only [sB] at c2
      refine w_skip ?_
      refine q_then ?_
      refine w_seq ?_
      refine w_block ?_
      refine w_seq ?_
      refine w_R ?_
      refine qm hnt rfl rfl ?_
      refine qm hnt rfl rfl ?_
      refine qo hnt rfl (s_quoN (a := i) (b := 8) rfl rfl (by omega) (by omega) (by omega) ?_)
      obtain ⟨e1,he1⟩ := get_of_lt b (i := i / 8) (by omega)
      refine qo hnt rfl (s_iaM (q := i / 8) (b := e1) (f := enc8) tab_34 rfl tab_5 rfl rfl (by omega) rfl he1 ?_)
      refine qo hnt rfl (s_load_ro1 tab_5 rfl rfl rfl rfl ?_)
      refine qm hnt rfl rfl ?_
      refine qo hnt rfl (s_remN (a := i) (b := 8) rfl rfl (by omega) (by omega) (by omega) ?_)
      refine qo hnt rfl (s_cvK tab_3 tab_44 rfl rfl rfl rfl (by exact ⟨by omega,by show _ < (18446744073709551616 : Int); omega⟩) ?_)
      refine qo hnt rfl (s_shr8 (a := e1) (i % 8) rfl rfl (by first|rfl|omega) (by first|decide|omega) ?_)
      refine qo hnt rfl (s_and8 (a := e1 >>> UInt8.ofNat (i % 8)) (b := 1) rfl rfl ?_)
      refine qo hnt rfl (s_eql8 (a := (e1 >>> UInt8.ofNat (i % 8)) &&& 1) (b := 1) rfl rfl ?_)
      refine qa hnt rfl rfl ?_
      refine r_end ?_
      refine q_then ?_
      refine w_seq ?_
      refine w_R ?_
      refine qm hnt rfl rfl ?_
      refine qm hnt rfl rfl ?_
      refine qo hnt rfl (s_lss rfl rfl ?_)
      refine r_end ?_
      refine q_then ?_
      refine w_if rfl (fun c3 => ?_) (fun c3 => ?_)
      ·
       have c3_ := c3
       try simp only [sB] at c3
       refine w_R ?_
       refine qm hnt rfl rfl ?_
       refine qm hnt rfl rfl ?_
       refine qo hnt rfl (s_mkM (f := encBo) [decide ((e1 >>> UInt8.ofNat (i % 8)) &&& 1 = 1)] tab_23 rfl tab_4 ⟨rfl,by decide⟩ (by decide) rfl rfl rfl rfl ?_)
       refine qo hnt rfl (s_appR0 (f := encBo) (l := os) (xs := [decide ((e1 >>> UInt8.ofNat (i % 8)) &&& 1 = 1)]) tab_23 rfl tab_4 ⟨rfl,by decide,by decide⟩ (srcM tab_23 rfl (hM_ref0 (f := encBo) rfl rfl)) rfl rfl (by first|omega|(simp; omega)) ?_)
       refine qa hnt rfl rfl ?_
       refine r_set [(0,pS 1 cl_b enc8 b),(1,pN kn),(6,PV.ref 2 0 none),(7,pN i)] [(2,oB true 1 encBo (os ++ [decide ((e1 >>> UInt8.ofNat (i % 8)) &&& 1 = 1)])),(1,oB true 1 encBo [decide ((e1 >>> UInt8.ofNat (i % 8)) &&& 1 = 1)])] 3 ⟨rfl,rfl,rfl,rfl,trivial⟩ rfl rfl ?_
       refine r_end ?_
       refine q_block ?_
       refine q_then ?_
       refine w_R ?_
       refine qm hnt rfl rfl ?_
       refine qo hnt rfl (s_addN (a := i) (b := 1) rfl rfl (by omega) (by omega) (by omega) ?_)
       refine qa hnt rfl rfl ?_
       refine r_end ?_
       refine q_then ?_
       refine ⟨(os ++ [decide ((e1 >>> UInt8.ofNat (i % 8)) &&& 1 = 1)]),(i + 1), ?_, ?_,⟨[(0,2)],by rw [hk]; decide,⟨⟨_,rfl,rfl,rfl⟩,⟨_,rfl,rfl,rfl⟩,⟨_,rfl,rfl,rfl⟩,⟨_,rfl,rfl,rfl⟩,trivial⟩,⟨⟨_,_,rfl,rfl,rfl,rfl⟩,trivial⟩,by rw [hk]; decide⟩⟩
       ·
        first|(refine ⟨by omega, ?_,fun j hj hn => hz j (by omega) hn⟩; rw [show min (i + 1) kn = i + 1 by omega,bits_snoc,bitOf_of he1,ho,show min i kn = i by omega])|(refine ⟨by omega,by rw [ho,show min (i + 1) kn = min i kn by omega],fun j hj hn => ?_⟩; by_cases hji : j < i; exact hz j hji hn; obtain rfl : j = i := (by omega); exact hbi)
       · omega
      ·
       have c3_ := c3
       try simp only [sB] at c3
       refine w_seq ?_
       refine w_R ?_
       refine qm hnt rfl rfl ?_
       refine r_end ?_
       refine q_then ?_
       refine w_if rfl (fun c4 => ?_) (fun c4 => ?_)
       ·
        have c4_ := c4
        try simp only [sB] at c4
        have hbi : bitOf b i = true := by rw [bitOf_of he1]; simpa using c4_
        have eo : bopOk b n = false := by rw [hkn,bopOk_nat ⟨hbd,hlen⟩]; exact decide_eq_false fun h => by rw [h i (by omega) (by omega)] at hbi; cases hbi
        refine w_seq ?_
        refine w_R ?_
        refine qa hnt rfl rfl ?_
        refine qa hnt rfl rfl ?_
        refine r_end ?_
        refine q_then ?_
        refine w_le (s := 4) (y := pS 1 false encBo []) rfl (le_nilS 1 false) ?_
        refine w_le (s := 4) (y := pS 1 false encBo (bopV b n)) rfl (le_of_eq (congrArg (fun z => pS 1 false encBo z) (show [] = (bopV b n) by first|exact eo.symm|(simp [bopV,eo]; done)|(rw [hkn,bopV_nat (by rw [← hkn]; exact eo),hoe])))) ?_
        refine w_le (s := 5) (y := pB (bopOk b n)) rfl (le_of_eq (congrArg (fun z : Bool => pB z) (show false = (bopOk b n) by first|exact eo.symm|(simp [bopV,eo]; done)|(rw [hkn,bopV_nat (by rw [← hkn]; exact eo),hoe])))) ?_
        refine w_ret ?_
        refine q_block_ret ?_
        refine q_then_ret ?_
        refine q_then_ret ?_
        refine q_block_ret ?_
        refine q_then_ret ?_
        exact fin_plain (ret_tmp rfl (ret_tmp rfl ret_nil)) rfl rfl ⟨rfl,rfl,rfl⟩
       ·
        have c4_ := c4
        try simp only [sB] at c4
        have hbi : bitOf b i = false := by rw [bitOf_of he1]; simpa using c4_
        refine w_skip ?_
        refine q_block ?_
        refine q_then ?_
        refine w_R ?_
        refine qm hnt rfl rfl ?_
        refine qo hnt rfl (s_addN (a := i) (b := 1) rfl rfl (by omega) (by omega) (by omega) ?_)
        refine qa hnt rfl rfl ?_
        refine r_end ?_
        refine q_then ?_
        refine ⟨(os),(i + 1), ?_, ?_,⟨[(0,0)],by rw [hk]; decide,⟨⟨_,rfl,rfl,rfl⟩,⟨_,rfl,rfl,rfl⟩,⟨_,rfl,rfl,rfl⟩,⟨_,rfl,rfl,rfl⟩,trivial⟩,⟨⟨_,_,rfl,rfl,rfl,rfl⟩,trivial⟩,by rw [hk]; decide⟩⟩
        ·
         first|(refine ⟨by omega, ?_,fun j hj hn => hz j (by omega) hn⟩; rw [show min (i + 1) kn = i + 1 by omega,bits_snoc,bitOf_of he1,ho,show min i kn = i by omega])|(refine ⟨by omega,by rw [ho,show min (i + 1) kn = min i kn by omega],fun j hj hn => ?_⟩; by_cases hji : j < i; exact hz j hji hn; obtain rfl : j = i := (by omega); exact hbi)
        · omega
     ·
      have c2_ := c2
      try simp only [sB] at c2
      have hoe : os = (List.range kn).map (bitOf b) := by rw [ho,show min i kn = kn by omega]
      have eo : bopOk b n = true := by rw [hkn,bopOk_nat ⟨hbd,hlen⟩]; exact decide_eq_true fun j hj hn => hz j (by omega) hn
      refine w_exit ?_
      refine q_then_exit ?_
      refine q_then_exit ?_
      refine q_block_exit ?_
      refine q_then ?_
      refine w_seq ?_
      refine w_R ?_
      refine qm hnt rfl rfl ?_
      refine qa hnt rfl rfl ?_
      refine qa hnt rfl rfl ?_
      refine r_end ?_
      refine q_then ?_
      refine w_frzM (s := 4) (f := encBo) rfl rfl view_0 ?_
      refine w_le (s := 4) (y := pS 1 false encBo (bopV b n)) rfl (le_of_eq (congrArg (fun z => pS 1 false encBo z) (show os = (bopV b n) by first|exact eo.symm|(simp [bopV,eo]; done)|(rw [hkn,bopV_nat (by rw [← hkn]; exact eo),hoe])))) ?_
      refine w_le (s := 5) (y := pB (bopOk b n)) rfl (le_of_eq (congrArg (fun z : Bool => pB z) (show true = (bopOk b n) by first|exact eo.symm|(simp [bopV,eo]; done)|(rw [hkn,bopV_nat (by rw [← hkn]; exact eo),hoe])))) ?_
      refine w_ret ?_
      exact fin_plain (ret_tmp rfl (ret_tmp rfl ret_nil)) rfl rfl ⟨rfl,rfl,rfl⟩
  ·
   have g2' := g2
   try simp only [sB] at g2'
   have eo : bopOk b n = false := bopOk_no (by omega)
   refine rn hnt rfl rfl rfl g2 ?_
   refine rn hnt rfl rfl rfl g2 ?_
   refine rn hnt rfl rfl rfl g2 ?_
   refine rn hnt rfl rfl rfl g2 ?_
   refine rn hnt rfl rfl rfl g2 ?_
   refine qo hnt rfl (s_pick_t rfl g2 rfl ?_)
   refine r_end ?_
   refine q_then ?_
   refine w_if rfl (fun _ => ?_) (fun e => absurd e (by decide))
   refine w_seq ?_
   refine w_R ?_
   refine qa hnt rfl rfl ?_
   refine qa hnt rfl rfl ?_
   refine r_end ?_
   refine q_then ?_
   refine w_le (s := 4) (y := pS 1 false encBo []) rfl (le_nilS 1 false) ?_
   refine w_le (s := 4) (y := pS 1 false encBo (bopV b n)) rfl (le_of_eq (congrArg (fun z => pS 1 false encBo z) (show [] = (bopV b n) by first|exact eo.symm|(simp [bopV,eo]; done)|(rw [hkn,bopV_nat (by rw [← hkn]; exact eo),hoe])))) ?_
   refine w_le (s := 5) (y := pB (bopOk b n)) rfl (le_of_eq (congrArg (fun z : Bool => pB z) (show false = (bopOk b n) by first|exact eo.symm|(simp [bopV,eo]; done)|(rw [hkn,bopV_nat (by rw [← hkn]; exact eo),hoe])))) ?_
   refine w_ret ?_
   refine q_then_ret ?_
   exact fin_plain (ret_tmp rfl (ret_tmp rfl ret_nil)) rfl rfl ⟨rfl,rfl,rfl⟩
 ·
  have g1' := g1
  try simp only [sB] at g1'
  have eo : bopOk b n = false := bopOk_no (by omega)
  refine rn hnt rfl rfl rfl g1 ?_
  refine rn hnt rfl rfl rfl g1 ?_
  refine rn hnt rfl rfl rfl g1 ?_
  refine rn hnt rfl rfl rfl g1 ?_
  refine qo hnt rfl (s_pick_t rfl g1 rfl ?_)
  refine qm hnt rfl rfl ?_
  refine rn hnt rfl rfl rfl rfl ?_
  refine rn hnt rfl rfl rfl rfl ?_
  refine rn hnt rfl rfl rfl rfl ?_
  refine rn hnt rfl rfl rfl rfl ?_
  refine rn hnt rfl rfl rfl rfl ?_
  refine rn hnt rfl rfl rfl rfl ?_
  refine qo hnt rfl (s_pick_t rfl rfl rfl ?_)
  refine r_end ?_
  refine q_then ?_
  refine w_if rfl (fun _ => ?_) (fun e => absurd e (by decide))
  refine w_seq ?_
  refine w_R ?_
  refine qa hnt rfl rfl ?_
  refine qa hnt rfl rfl ?_
  refine r_end ?_
  refine q_then ?_
  refine w_le (s := 4) (y := pS 1 false encBo []) rfl (le_nilS 1 false) ?_
  refine w_le (s := 4) (y := pS 1 false encBo (bopV b n)) rfl (le_of_eq (congrArg (fun z => pS 1 false encBo z) (show [] = (bopV b n) by first|exact eo.symm|(simp [bopV,eo]; done)|(rw [hkn,bopV_nat (by rw [← hkn]; exact eo),hoe])))) ?_
  refine w_le (s := 5) (y := pB (bopOk b n)) rfl (le_of_eq (congrArg (fun z : Bool => pB z) (show false = (bopOk b n) by first|exact eo.symm|(simp [bopV,eo]; done)|(rw [hkn,bopV_nat (by rw [← hkn]; exact eo),hoe])))) ?_
  refine w_ret ?_
  refine q_then_ret ?_
  exact fin_plain (ret_tmp rfl (ret_tmp rfl ret_nil)) rfl rfl ⟨rfl,rfl,rfl⟩
end Go.Proofs.Ytigpfkcjpjhflaa
set_option linter.unusedVariables false
namespace Go.Proofs.Ytigpfkcjpjhflaa
open Go Go.Proofs.Ytigpfkcjpjhflaa.Pv
def hasF (n : Int) : Bool := decide ((1 ≤ n ∧ n ≤ 6) ∨ n = 8 ∨ n = 15 ∨ n = 16 ∨ n = 17 ∨ n = 22 ∨ n = 23)
theorem hasF_of {n : Int} (h : hasF n = true) : n = 1 ∨ n = 2 ∨ n = 3 ∨ n = 4 ∨ n = 5 ∨ n = 6 ∨ n = 8 ∨ n = 15 ∨ n = 16 ∨ n = 17 ∨ n = 22 ∨ n = 23 := by
  have := of_decide_eq_true h; omega
def wordOk (n : Int) : Bool := decide (0 ≤ n ∧ n ≤ 65535)
def usesS (n : Int) : List UInt8 := if n = 1 ∨ n = 2 ∨ n = 3 ∨ n = 4 then [97,99] else if n = 5 then [97,98] else if n = 6 then [97,118] else if n = 8 then [115,118] else if n = 15 then [97,99,98] else if n = 16 then [97,99,118] else if n = 22 then [97,109] else if n = 23 then [97,99,119,118] else []
theorem usesS_len (n : Int) : (usesS n).length ≤ 4 := by
  unfold usesS
  repeat' split
  all_goals simp
def inS (s : List UInt8) (c : UInt8) : Bool := decide (c ∈ s)
def listsR (q : TRequest) : Bool :=
  if q.fn = 5 then decide (q.bits.length = 1) else if q.fn = 6 ∨ q.fn = 8 then decide (q.vals.length = 1) else if q.fn = 15 then decide ((q.bits.length : Int) = q.count ∧ q.bits.length ≤ 2040)
  else if q.fn = 16 then decide ((q.vals.length : Int) = q.count ∧ q.vals.length ≤ 127) else if q.fn = 23 then decide (q.vals.length ≤ 127) else true
theorem listsR_5 {q : TRequest} (h : q.fn = 5) : listsR q = decide (((q.bits.length : Nat) : Int) = 1) := by unfold listsR; rw [if_pos h]; apply decide_eq_decide.2; omega
theorem listsR_6 {q : TRequest} (h : q.fn = 6) : listsR q = decide (((q.vals.length : Nat) : Int) = 1) := by unfold listsR; rw [if_neg (by omega),if_pos (.inl h)]; apply decide_eq_decide.2; omega
theorem listsR_8 {q : TRequest} (h : q.fn = 8) : listsR q = decide (((q.vals.length : Nat) : Int) = 1) := by unfold listsR; rw [if_neg (by omega),if_pos (.inr h)]; apply decide_eq_decide.2; omega
theorem listsR_15 {q : TRequest} (h : q.fn = 15) : listsR q = (decide (((q.bits.length : Nat) : Int) = q.count) && decide (((q.bits.length : Nat) : Int) ≤ 2040)) := by
  unfold listsR; rw [if_neg (by omega),if_neg (by omega),if_pos h,← Bool.decide_and]; apply decide_eq_decide.2; omega
theorem listsR_16 {q : TRequest} (h : q.fn = 16) : listsR q = (decide (((q.vals.length : Nat) : Int) = q.count) && decide (((q.vals.length : Nat) : Int) ≤ 127)) := by
  unfold listsR; rw [if_neg (by omega),if_neg (by omega),if_neg (by omega),if_pos h,← Bool.decide_and]; apply decide_eq_decide.2; omega
theorem listsR_23 {q : TRequest} (h : q.fn = 23) : listsR q = decide (((q.vals.length : Nat) : Int) ≤ 127) := by
  unfold listsR; rw [if_neg (by omega),if_neg (by omega),if_neg (by omega),if_neg (by omega),if_pos h]; apply decide_eq_decide.2; omega
theorem listsR_no {q : TRequest} (h : q.fn ≠ 5 ∧ q.fn ≠ 6 ∧ q.fn ≠ 8 ∧ q.fn ≠ 15 ∧ q.fn ≠ 16 ∧ q.fn ≠ 23) : listsR q = true := by
  unfold listsR; rw [if_neg (by omega),if_neg (by omega),if_neg (by omega),if_neg (by omega),if_neg (by omega)]
def badA (r : TRequest) : Bool := (((((((!(inS (usesS r.fn) 97)) && (!decide (r.at_ = 0))) || ((!(inS (usesS r.fn) 99)) && (!decide (r.count = 0)))) || ((!(inS (usesS r.fn) 119)) && (!decide (r.wAt = 0)))) || ((!(inS (usesS r.fn) 115)) && (!decide (r.sub = 0)))) || ((!(inS (usesS r.fn) 98)) && (decide (0 < ((r.bits.length : Nat) : Int))))) || ((!(inS (usesS r.fn) 118)) && (decide (0 < ((r.vals.length : Nat) : Int))))) || ((!(inS (usesS r.fn) 109)) && ((!decide (r.and_ = 0)) || (!decide (r.or_ = 0))))
def badB (r : TRequest) : Bool := ((((!(wordOk r.at_)) || (!(wordOk r.count))) || (!(wordOk r.wAt))) || (!(wordOk r.sub))) || (!(listsR r))
def rightR (q : TRequest) : Int := if (!(hasF q.fn)) = true then 15 else if badA q = true then 12 else if badB q = true then 12 else 0
theorem rightR_1 {q : TRequest} (h : (!(hasF q.fn)) = true) : rightR q = 15 := by unfold rightR; rw [if_pos h]
theorem rightR_2 {q : TRequest} (h : (!(hasF q.fn)) = false) (h2 : badA q = true) : rightR q = 12 := by unfold rightR; rw [if_neg (by simp [h]),if_pos h2]
theorem rightR_3 {q : TRequest} (h : (!(hasF q.fn)) = false) (h2 : badA q = false) (h3 : badB q = true) : rightR q = 12 := by unfold rightR; rw [if_neg (by simp [h]),if_neg (by simp [h2]),if_pos h3]
theorem rightR_4 {q : TRequest} (h : (!(hasF q.fn)) = false) (h2 : badA q = false) (h3 : badB q = false) : rightR q = 0 := by unfold rightR; rw [if_neg (by simp [h]),if_neg (by simp [h2]),if_neg (by simp [h3])]
theorem in_all {n : Int} (h : hasF n = true) : inS (usesS n) 97 = decide (n ≠ 8 ∧ n ≠ 17) ∧ inS (usesS n) 99 = decide (n ≤ 4 ∨ n = 15 ∨ n = 16 ∨ n = 23) ∧ inS (usesS n) 119 = decide (n = 23) ∧ inS (usesS n) 115 = decide (n = 8) ∧
    inS (usesS n) 98 = decide (n = 5 ∨ n = 15) ∧ inS (usesS n) 118 = decide (n = 6 ∨ n = 8 ∨ n = 16 ∨ n = 23) ∧ inS (usesS n) 109 = decide (n = 22) := by
  rcases hasF_of h with h|h|h|h|h|h|h|h|h|h|h|h <;> subst h <;> decide
theorem u16z {x : UInt16} : x = 0 ↔ x.toNat = 0 := ⟨fun h => by rw [h]; rfl,fun h => UInt16.toNat_inj.1 h⟩
structure ShapeR (q : TRequest) : Prop where
  wa : 0 ≤ q.at_ ∧ q.at_ ≤ 65535
  wc : 0 ≤ q.count ∧ q.count ≤ 65535
  ww : 0 ≤ q.wAt ∧ q.wAt ≤ 65535
  ws : 0 ≤ q.sub ∧ q.sub ≤ 65535
  za : (q.fn = 8 ∨ q.fn = 17) → q.at_ = 0
  zc : ¬ (q.fn ≤ 4 ∨ q.fn = 15 ∨ q.fn = 16 ∨ q.fn = 23) → q.count = 0
  zw : q.fn ≠ 23 → q.wAt = 0
  zs : q.fn ≠ 8 → q.sub = 0
  zm : q.fn ≠ 22 → q.and_.toNat = 0 ∧ q.or_.toNat = 0
  bits : if q.fn = 5 then q.bits.length = 1 else if q.fn = 15 then (q.bits.length : Int) = q.count ∧ q.bits.length ≤ 2040 else q.bits.length = 0
  vals : if q.fn = 6 ∨ q.fn = 8 then q.vals.length = 1 else if q.fn = 16 then (q.vals.length : Int) = q.count ∧ q.vals.length ≤ 127 else if q.fn = 23 then q.vals.length ≤ 127 else q.vals.length = 0
theorem shapeR_iff {q : TRequest} (h : hasF q.fn = true) : rightR q = 0 ↔ ShapeR q := by
  obtain ⟨ia,ic,iw,is,ib,iv,im⟩ := in_all h
  have h0 : (!(hasF q.fn)) = false := by simp [h]
  have e : rightR q = 0 ↔ badA q = false ∧ badB q = false := by
    cases ha : badA q with
    | true => rw [rightR_2 h0 ha]; simp
    | false =>
      cases hb : badB q with
      | true => rw [rightR_3 h0 ha hb]; simp
      | false => rw [rightR_4 h0 ha hb]; simp
  rw [e]
  unfold badA badB
  rw [ia,ic,iw,is,ib,iv,im]
  have hz := @u16z q.and_
  have hz2 := @u16z q.or_
  have hf := hasF_of h
  simp only [Bool.or_eq_false_iff,Bool.and_eq_false_iff,Bool.not_eq_false',decide_eq_true_eq,decide_eq_false_iff_not,wordOk,hz,hz2]
  constructor
  · rintro ⟨⟨⟨⟨⟨⟨⟨a1,a2⟩,a3⟩,a4⟩,a5⟩,a6⟩,a7⟩,⟨⟨⟨b1,b2⟩,b3⟩,b4⟩,b5⟩
    unfold listsR at b5
    refine ⟨b1,b2,b3,b4,by omega,by omega,by omega,by omega,by omega, ?_, ?_⟩
    · repeat' split
      all_goals (repeat' split at b5) <;> first|omega|(simp only [decide_eq_true_eq] at b5; omega)
    · repeat' split
      all_goals (repeat' split at b5) <;> first|omega|(simp only [decide_eq_true_eq] at b5; omega)
  · rintro ⟨wa,wc,ww,ws,za,zc,zw,zs,zm,hb,hv⟩
    refine ⟨⟨⟨⟨⟨⟨⟨by omega,by omega⟩,by omega⟩,by omega⟩, ?_⟩, ?_⟩,by omega⟩,⟨⟨⟨wa,wc⟩,ww⟩,ws⟩, ?_⟩
    · repeat' split at hb
      all_goals omega
    · repeat' split at hv
      all_goals omega
    · unfold listsR
      repeat' split
      all_goals first|rfl|(apply decide_eq_true; (repeat' split at hb) <;> (repeat' split at hv) <;> omega)
theorem rightR_form {q : TRequest} (h : hasF q.fn = true) (h2 : ¬ ShapeR q) : rightR q = 12 := by
  have h0 : (!(hasF q.fn)) = false := by simp [h]
  cases ha : badA q with
  | true => exact rightR_2 h0 ha
  | false =>
    cases hb : badB q with
    | true => exact rightR_3 h0 ha hb
    | false => exact absurd ((shapeR_iff h).1 (rightR_4 h0 ha hb)) h2
theorem rightR_zero {q : TRequest} (h : rightR q = 0) : hasF q.fn = true ∧ ShapeR q := by
  cases hf : hasF q.fn with
  | true => exact ⟨rfl,(shapeR_iff hf).1 h⟩
  | false => rw [rightR_1 (by simp [hf])] at h; cases h
def rowX (x : List UInt8) : List UInt8 := UInt8.ofNat x.length :: x
def writeT (q : TRequest) : List UInt8 :=
  if q.fn = 1 ∨ q.fn = 2 ∨ q.fn = 3 ∨ q.fn = 4 then put2 q.at_ ++ put2 q.count
  else if q.fn = 5 then put2 q.at_ ++ put2 (if q.bits.getD 0 false = true then 65280 else 0)
  else if q.fn = 6 then put2 q.at_ ++ put2 (((q.vals.getD 0 0).toNat : Nat) : Int)
  else if q.fn = 8 then put2 q.sub ++ put2 (((q.vals.getD 0 0).toNat : Nat) : Int)
  else if q.fn = 15 then put2 q.at_ ++ (put2 q.count ++ rowX (packL q.bits))
  else if q.fn = 16 then put2 q.at_ ++ (put2 q.count ++ rowX (bytesL q.vals))
  else if q.fn = 22 then put2 q.at_ ++ (put2 ((q.and_.toNat : Nat) : Int) ++ put2 ((q.or_.toNat : Nat) : Int))
  else if q.fn = 23 then put2 q.at_ ++ (put2 q.count ++ (put2 q.wAt ++ (put2 ((q.vals.length : Nat) : Int) ++ rowX (bytesL q.vals))))
  else []
def writeR (q : TRequest) : List UInt8 := u8I q.fn :: writeT q
theorem writeR_1 {q : TRequest} (h : q.fn = 1 ∨ q.fn = 2 ∨ q.fn = 3 ∨ q.fn = 4) : writeR q = u8I q.fn :: (put2 q.at_ ++ put2 q.count) := by
  unfold writeR writeT; rw [if_pos h]
theorem writeR_5 {q : TRequest} (h : q.fn = 5) {e : Bool} (he : q.bits[0]? = some e) : writeR q = u8I q.fn :: (put2 q.at_ ++ put2 (if e = true then 65280 else 0)) := by
  unfold writeR writeT; rw [if_neg (by omega),if_pos h,List.getD_eq_getElem?_getD,he]; rfl
theorem writeR_6 {q : TRequest} (h : q.fn = 6) {e : UInt16} (he : q.vals[0]? = some e) : writeR q = u8I q.fn :: (put2 q.at_ ++ put2 ((e.toNat : Nat) : Int)) := by
  unfold writeR writeT; rw [if_neg (by omega),if_neg (by omega),if_pos h,List.getD_eq_getElem?_getD,he]; rfl
theorem writeR_8 {q : TRequest} (h : q.fn = 8) {e : UInt16} (he : q.vals[0]? = some e) : writeR q = u8I q.fn :: (put2 q.sub ++ put2 ((e.toNat : Nat) : Int)) := by
  unfold writeR writeT; rw [if_neg (by omega),if_neg (by omega),if_neg (by omega),if_pos h,List.getD_eq_getElem?_getD,he]; rfl
theorem writeR_15 {q : TRequest} (h : q.fn = 15) : writeR q = u8I q.fn :: (put2 q.at_ ++ (put2 q.count ++ rowX (packL q.bits))) := by
  unfold writeR writeT; rw [if_neg (by omega),if_neg (by omega),if_neg (by omega),if_neg (by omega),if_pos h]
theorem writeR_16 {q : TRequest} (h : q.fn = 16) : writeR q = u8I q.fn :: (put2 q.at_ ++ (put2 q.count ++ rowX (bytesL q.vals))) := by
  unfold writeR writeT; rw [if_neg (by omega),if_neg (by omega),if_neg (by omega),if_neg (by omega),if_neg (by omega),if_pos h]
theorem writeR_22 {q : TRequest} (h : q.fn = 22) : writeR q = u8I q.fn :: (put2 q.at_ ++ (put2 ((q.and_.toNat : Nat) : Int) ++ put2 ((q.or_.toNat : Nat) : Int))) := by
  unfold writeR writeT; rw [if_neg (by omega),if_neg (by omega),if_neg (by omega),if_neg (by omega),if_neg (by omega),if_neg (by omega),if_pos h]
theorem writeR_23 {q : TRequest} (h : q.fn = 23) : writeR q = u8I q.fn :: (put2 q.at_ ++ (put2 q.count ++ (put2 q.wAt ++ (put2 ((q.vals.length : Nat) : Int) ++ rowX (bytesL q.vals))))) := by
  unfold writeR writeT; rw [if_neg (by omega),if_neg (by omega),if_neg (by omega),if_neg (by omega),if_neg (by omega),if_neg (by omega),if_neg (by omega),if_pos h]
theorem writeR_no {q : TRequest} (h : ¬ (q.fn = 1 ∨ q.fn = 2 ∨ q.fn = 3 ∨ q.fn = 4) ∧ q.fn ≠ 5 ∧ q.fn ≠ 6 ∧ q.fn ≠ 8 ∧ q.fn ≠ 15 ∧ q.fn ≠ 16 ∧ q.fn ≠ 22 ∧ q.fn ≠ 23) : writeR q = [u8I q.fn] := by
  unfold writeR writeT; rw [if_neg (by omega),if_neg (by omega),if_neg (by omega),if_neg (by omega),if_neg (by omega),if_neg (by omega),if_neg (by omega),if_neg (by omega)]
def bytesR (q : TRequest) : List UInt8 := if rightR q = 0 then writeR q else []
@[simp] theorem rowX_length (x : List UInt8) : (rowX x).length = x.length + 1 := by simp [rowX]
theorem writeR_len {q : TRequest} (h : ShapeR q) : 1 ≤ (writeR q).length ∧ (writeR q).length ≤ 264 := by
  obtain ⟨wa,wc,ww,ws,za,zc,zw,zs,zm,hb,hv⟩ := h
  unfold writeR writeT
  refine ⟨by simp, ?_⟩
  repeat' split
  all_goals simp only [List.length_cons,List.length_append,put2_length,rowX_length,packL_length,bytesL_length,List.length_nil]
  all_goals (repeat' split at hb) <;> (repeat' split at hv) <;> omega
theorem shape_small {q : TRequest} (h : ShapeR q) : q.bits.length ≤ 2040 ∧ q.vals.length ≤ 127 := by
  obtain ⟨wa,wc,ww,ws,za,zc,zw,zs,zm,hb,hv⟩ := h
  constructor
  · repeat' split at hb
    all_goals omega
  · repeat' split at hv
    all_goals omega
end Go.Proofs.Ytigpfkcjpjhflaa
set_option linter.unusedVariables false
set_option linter.unusedSimpArgs false
set_option maxRecDepth 10000
set_option maxHeartbeats 1000000
namespace Go.Proofs.Ytigpfkcjpjhflaa
open Go Go.Proofs.Ytigpfkcjpjhflaa.Pv
theorem w_burgageref3_Has (n : Int)  :
    T Try.prog 70 [pI n] 0 [] (Ret (pB (hasF n)) 0 []) := by
 refine t_fun tabOk (n := 33) (rs := [.tmp 2]) Try.func70 rfl rfl rfl rfl (Nat.le_of_ble_eq_true rfl) ?_
 intro c hnt hk
 refine w_seq ?_
 refine w_R ?_
 refine qa hnt rfl rfl ?_
 refine r_end ?_
 refine q_then ?_
 refine w_seq ?_
 refine w_R ?_
 refine qm hnt rfl rfl ?_
 refine qo hnt rfl (s_geq rfl rfl ?_)
 refine qm hnt rfl rfl ?_
 refine r_cut0 3 [(0,pI n),(2,pB false),(8,pB ((decide (1 ≤ n)) && (decide (n ≤ 6))))] ?_ ?_
 ·
  refine r_if tabOk hnt rfl rfl rfl (fun g1 => ?_) (fun g1 => ?_)
  ·
   have g1' := g1
   try simp only [sB] at g1'
   refine qm hnt rfl rfl ?_
   refine ry hnt rfl rfl rfl g1 ?_
   refine qo hnt rfl (s_leq rfl rfl ?_)
   refine qo hnt rfl (s_pick_t rfl g1 rfl ?_)
   refine r_eq (s := 8) (y := pB ((decide (1 ≤ n)) && (decide (n ≤ 6)))) rfl (mix_at g1) ?_
   exact r_mid ⟨⟨rfl,rfl,rfl,trivial⟩,rfl,rfl⟩
  ·
   have g1' := g1
   try simp only [sB] at g1'
   refine rn hnt rfl rfl rfl g1 ?_
   refine qo hnt rfl (s_pick_f rfl g1 rfl ?_)
   refine r_eq (s := 8) (y := pB ((decide (1 ≤ n)) && (decide (n ≤ 6)))) rfl (mix_af _ g1) ?_
   exact r_mid ⟨⟨rfl,rfl,rfl,trivial⟩,rfl,rfl⟩
 ·
  refine qm hnt rfl rfl ?_
  refine r_cut0 3 [(0,pI n),(2,pB false),(12,pB (((decide (1 ≤ n)) && (decide (n ≤ 6))) || (decide (n = 8))))] ?_ ?_
  ·
   refine r_if tabOk hnt rfl rfl rfl (fun g2 => ?_) (fun g2 => ?_)
   ·
    have g2' := g2
    try simp only [sB] at g2'
    refine qm hnt rfl rfl ?_
    refine ry hnt rfl rfl rfl g2 ?_
    refine qo hnt rfl (s_eql rfl rfl ?_)
    refine qo hnt rfl (s_pick_f rfl g2 rfl ?_)
    refine r_eq (s := 12) (y := pB (((decide (1 ≤ n)) && (decide (n ≤ 6))) || (decide (n = 8)))) rfl (mix_of g2) ?_
    exact r_mid ⟨⟨rfl,rfl,rfl,trivial⟩,rfl,rfl⟩
   ·
    have g2' := g2
    try simp only [sB] at g2'
    refine rn hnt rfl rfl rfl g2 ?_
    refine qo hnt rfl (s_pick_t rfl g2 rfl ?_)
    refine r_eq (s := 12) (y := pB (((decide (1 ≤ n)) && (decide (n ≤ 6))) || (decide (n = 8)))) rfl (mix_ot _ g2) ?_
    exact r_mid ⟨⟨rfl,rfl,rfl,trivial⟩,rfl,rfl⟩
  ·
   refine qm hnt rfl rfl ?_
   refine r_cut0 3 [(0,pI n),(2,pB false),(16,pB ((((decide (1 ≤ n)) && (decide (n ≤ 6))) || (decide (n = 8))) || (decide (n = 15))))] ?_ ?_
   ·
    refine r_if tabOk hnt rfl rfl rfl (fun g3 => ?_) (fun g3 => ?_)
    ·
     have g3' := g3
     try simp only [sB] at g3'
     refine qm hnt rfl rfl ?_
     refine ry hnt rfl rfl rfl g3 ?_
     refine qo hnt rfl (s_eql rfl rfl ?_)
     refine qo hnt rfl (s_pick_f rfl g3 rfl ?_)
     refine r_eq (s := 16) (y := pB ((((decide (1 ≤ n)) && (decide (n ≤ 6))) || (decide (n = 8))) || (decide (n = 15)))) rfl (mix_of g3) ?_
     exact r_mid ⟨⟨rfl,rfl,rfl,trivial⟩,rfl,rfl⟩
    ·
     have g3' := g3
     try simp only [sB] at g3'
     refine rn hnt rfl rfl rfl g3 ?_
     refine qo hnt rfl (s_pick_t rfl g3 rfl ?_)
     refine r_eq (s := 16) (y := pB ((((decide (1 ≤ n)) && (decide (n ≤ 6))) || (decide (n = 8))) || (decide (n = 15)))) rfl (mix_ot _ g3) ?_
     exact r_mid ⟨⟨rfl,rfl,rfl,trivial⟩,rfl,rfl⟩
   ·
    refine qm hnt rfl rfl ?_
    refine r_cut0 3 [(0,pI n),(2,pB false),(20,pB (((((decide (1 ≤ n)) && (decide (n ≤ 6))) || (decide (n = 8))) || (decide (n = 15))) || (decide (n = 16))))] ?_ ?_
    ·
     refine r_if tabOk hnt rfl rfl rfl (fun g4 => ?_) (fun g4 => ?_)
     ·
      have g4' := g4
      try simp only [sB] at g4'
      refine qm hnt rfl rfl ?_
      refine ry hnt rfl rfl rfl g4 ?_
      refine qo hnt rfl (s_eql rfl rfl ?_)
      refine qo hnt rfl (s_pick_f rfl g4 rfl ?_)
      refine r_eq (s := 20) (y := pB (((((decide (1 ≤ n)) && (decide (n ≤ 6))) || (decide (n = 8))) || (decide (n = 15))) || (decide (n = 16)))) rfl (mix_of g4) ?_
      exact r_mid ⟨⟨rfl,rfl,rfl,trivial⟩,rfl,rfl⟩
     ·
      have g4' := g4
      try simp only [sB] at g4'
      refine rn hnt rfl rfl rfl g4 ?_
      refine qo hnt rfl (s_pick_t rfl g4 rfl ?_)
      refine r_eq (s := 20) (y := pB (((((decide (1 ≤ n)) && (decide (n ≤ 6))) || (decide (n = 8))) || (decide (n = 15))) || (decide (n = 16)))) rfl (mix_ot _ g4) ?_
      exact r_mid ⟨⟨rfl,rfl,rfl,trivial⟩,rfl,rfl⟩
    ·
     refine qm hnt rfl rfl ?_
     refine r_cut0 3 [(0,pI n),(2,pB false),(24,pB ((((((decide (1 ≤ n)) && (decide (n ≤ 6))) || (decide (n = 8))) || (decide (n = 15))) || (decide (n = 16))) || (decide (n = 17))))] ?_ ?_
     ·
      refine r_if tabOk hnt rfl rfl rfl (fun g5 => ?_) (fun g5 => ?_)
      ·
       have g5' := g5
       try simp only [sB] at g5'
       refine qm hnt rfl rfl ?_
       refine ry hnt rfl rfl rfl g5 ?_
       refine qo hnt rfl (s_eql rfl rfl ?_)
       refine qo hnt rfl (s_pick_f rfl g5 rfl ?_)
       refine r_eq (s := 24) (y := pB ((((((decide (1 ≤ n)) && (decide (n ≤ 6))) || (decide (n = 8))) || (decide (n = 15))) || (decide (n = 16))) || (decide (n = 17)))) rfl (mix_of g5) ?_
       exact r_mid ⟨⟨rfl,rfl,rfl,trivial⟩,rfl,rfl⟩
      ·
       have g5' := g5
       try simp only [sB] at g5'
       refine rn hnt rfl rfl rfl g5 ?_
       refine qo hnt rfl (s_pick_t rfl g5 rfl ?_)
       refine r_eq (s := 24) (y := pB ((((((decide (1 ≤ n)) && (decide (n ≤ 6))) || (decide (n = 8))) || (decide (n = 15))) || (decide (n = 16))) || (decide (n = 17)))) rfl (mix_ot _ g5) ?_
       exact r_mid ⟨⟨rfl,rfl,rfl,trivial⟩,rfl,rfl⟩
     ·
      refine qm hnt rfl rfl ?_
      refine r_cut0 3 [(0,pI n),(2,pB false),(28,pB (((((((decide (1 ≤ n)) && (decide (n ≤ 6))) || (decide (n = 8))) || (decide (n = 15))) || (decide (n = 16))) || (decide (n = 17))) || (decide (n = 22))))] ?_ ?_
      ·
       refine r_if tabOk hnt rfl rfl rfl (fun g6 => ?_) (fun g6 => ?_)
       ·
        have g6' := g6
        try simp only [sB] at g6'
        refine qm hnt rfl rfl ?_
        refine ry hnt rfl rfl rfl g6 ?_
        refine qo hnt rfl (s_eql rfl rfl ?_)
        refine qo hnt rfl (s_pick_f rfl g6 rfl ?_)
        refine r_eq (s := 28) (y := pB (((((((decide (1 ≤ n)) && (decide (n ≤ 6))) || (decide (n = 8))) || (decide (n = 15))) || (decide (n = 16))) || (decide (n = 17))) || (decide (n = 22)))) rfl (mix_of g6) ?_
        exact r_mid ⟨⟨rfl,rfl,rfl,trivial⟩,rfl,rfl⟩
       ·
        have g6' := g6
        try simp only [sB] at g6'
        refine rn hnt rfl rfl rfl g6 ?_
        refine qo hnt rfl (s_pick_t rfl g6 rfl ?_)
        refine r_eq (s := 28) (y := pB (((((((decide (1 ≤ n)) && (decide (n ≤ 6))) || (decide (n = 8))) || (decide (n = 15))) || (decide (n = 16))) || (decide (n = 17))) || (decide (n = 22)))) rfl (mix_ot _ g6) ?_
        exact r_mid ⟨⟨rfl,rfl,rfl,trivial⟩,rfl,rfl⟩
      ·
       refine qm hnt rfl rfl ?_
       refine r_cut0 3 [(2,pB false),(32,pB ((((((((decide (1 ≤ n)) && (decide (n ≤ 6))) || (decide (n = 8))) || (decide (n = 15))) || (decide (n = 16))) || (decide (n = 17))) || (decide (n = 22))) || (decide (n = 23))))] ?_ ?_
       ·
        refine r_if tabOk hnt rfl rfl rfl (fun g7 => ?_) (fun g7 => ?_)
        ·
         have g7' := g7
         try simp only [sB] at g7'
         refine qm hnt rfl rfl ?_
         refine ry hnt rfl rfl rfl g7 ?_
         refine qo hnt rfl (s_eql rfl rfl ?_)
         refine qo hnt rfl (s_pick_f rfl g7 rfl ?_)
         refine r_eq (s := 32) (y := pB ((((((((decide (1 ≤ n)) && (decide (n ≤ 6))) || (decide (n = 8))) || (decide (n = 15))) || (decide (n = 16))) || (decide (n = 17))) || (decide (n = 22))) || (decide (n = 23)))) rfl (mix_of g7) ?_
         exact r_mid ⟨⟨rfl,rfl,trivial⟩,rfl,rfl⟩
        ·
         have g7' := g7
         try simp only [sB] at g7'
         refine rn hnt rfl rfl rfl g7 ?_
         refine qo hnt rfl (s_pick_t rfl g7 rfl ?_)
         refine r_eq (s := 32) (y := pB ((((((((decide (1 ≤ n)) && (decide (n ≤ 6))) || (decide (n = 8))) || (decide (n = 15))) || (decide (n = 16))) || (decide (n = 17))) || (decide (n = 22))) || (decide (n = 23)))) rfl (mix_ot _ g7) ?_
         exact r_mid ⟨⟨rfl,rfl,trivial⟩,rfl,rfl⟩
       ·
        refine qa hnt rfl rfl ?_
        refine r_end ?_
        refine q_then ?_
        refine w_le (s := 2) (y := pB (hasF n)) rfl (le_of_eq (congrArg (fun z : Bool => pB z) (show ((((((((decide (1 ≤ n)) && (decide (n ≤ 6))) || (decide (n = 8))) || (decide (n = 15))) || (decide (n = 16))) || (decide (n = 17))) || (decide (n = 22))) || (decide (n = 23))) = (hasF n) by unfold hasF; apply Bool.eq_iff_iff.2; simp only [Bool.and_eq_true,Bool.or_eq_true,decide_eq_true_eq]; try omega))) ?_
        refine w_ret ?_
        exact fin_plain (ret_tmp rfl ret_nil) rfl rfl ⟨rfl,rfl,rfl⟩
theorem w_burgageref3_word (n : Int)  :
    T Try.prog 73 [pI n] 0 [] (Ret (pB (wordOk n)) 0 []) := by
 refine t_fun tabOk (n := 9) (rs := [.tmp 2]) Try.func73 rfl rfl rfl rfl (Nat.le_of_ble_eq_true rfl) ?_
 intro c hnt hk
 refine w_seq ?_
 refine w_R ?_
 refine qa hnt rfl rfl ?_
 refine r_end ?_
 refine q_then ?_
 refine w_seq ?_
 refine w_R ?_
 refine qm hnt rfl rfl ?_
 refine qo hnt rfl (s_geq rfl rfl ?_)
 refine qm hnt rfl rfl ?_
 refine r_cut0 3 [(2,pB false),(8,pB ((decide (0 ≤ n)) && (decide (n ≤ 65535))))] ?_ ?_
 ·
  refine r_if tabOk hnt rfl rfl rfl (fun g1 => ?_) (fun g1 => ?_)
  ·
   have g1' := g1
   try simp only [sB] at g1'
   refine qm hnt rfl rfl ?_
   refine ry hnt rfl rfl rfl g1 ?_
   refine qo hnt rfl (s_leq rfl rfl ?_)
   refine qo hnt rfl (s_pick_t rfl g1 rfl ?_)
   refine r_eq (s := 8) (y := pB ((decide (0 ≤ n)) && (decide (n ≤ 65535)))) rfl (mix_at g1) ?_
   exact r_mid ⟨⟨rfl,rfl,trivial⟩,rfl,rfl⟩
  ·
   have g1' := g1
   try simp only [sB] at g1'
   refine rn hnt rfl rfl rfl g1 ?_
   refine qo hnt rfl (s_pick_f rfl g1 rfl ?_)
   refine r_eq (s := 8) (y := pB ((decide (0 ≤ n)) && (decide (n ≤ 65535)))) rfl (mix_af _ g1) ?_
   exact r_mid ⟨⟨rfl,rfl,trivial⟩,rfl,rfl⟩
 ·
  refine qa hnt rfl rfl ?_
  refine r_end ?_
  refine q_then ?_
  refine w_le (s := 2) (y := pB (wordOk n)) rfl (le_of_eq (congrArg (fun z : Bool => pB z) (show ((decide (0 ≤ n)) && (decide (n ≤ 65535))) = (wordOk n) by unfold wordOk; apply Bool.eq_iff_iff.2; simp only [Bool.and_eq_true,Bool.or_eq_true,decide_eq_true_eq]; try omega))) ?_
  refine w_ret ?_
  exact fin_plain (ret_tmp rfl ret_nil) rfl rfl ⟨rfl,rfl,rfl⟩
theorem w_burgageref3_uses (n : Int)  :
    T Try.prog 71 [pI n] 0 [] (Ret (pT (usesS n)) 0 []) := by
 refine t_fun tabOk (n := 23) (rs := [.tmp 2]) Try.func71 rfl rfl rfl rfl (Nat.le_of_ble_eq_true rfl) ?_
 intro c hnt hk
 refine w_seq ?_
 refine w_R ?_
 refine qa hnt rfl rfl ?_
 refine r_end ?_
 refine q_then ?_
 refine w_seq ?_
 refine w_seq ?_
 refine w_R ?_
 refine qm hnt rfl rfl ?_
 refine r_end ?_
 refine q_then ?_
 refine w_block ?_
 refine w_seq ?_
 refine w_seq ?_
 refine w_R ?_
 refine qo hnt rfl (s_eql rfl rfl ?_)
 refine qa hnt rfl rfl ?_
 refine r_end ?_
 refine q_then ?_
 refine w_if rfl (fun c1 => ?_) (fun c1 => ?_)
 ·
  have c1_ := c1
  try simp only [sB] at c1
  refine w_skip ?_
  refine q_then ?_
  refine w_if rfl (fun _ => ?_) (fun e => absurd (e.symm.trans c1_) (by decide))
  refine w_seq ?_
  refine w_R ?_
  refine qa hnt rfl rfl ?_
  refine r_end ?_
  refine q_then ?_
  refine w_le (s := 2) (y := pT (usesS n)) rfl (le_of_eq (congrArg (fun z : List UInt8 => pT z) (show ([97,99] : List UInt8) = (usesS n) by first|(simp [usesS, *]; done)|simp [usesS, *]))) ?_
  refine w_ret ?_
  refine q_block_ret ?_
  refine q_then_ret ?_
  exact fin_plain (ret_tmp rfl ret_nil) rfl rfl ⟨rfl,rfl,rfl⟩
 ·
  have c1_ := c1
  try simp only [sB] at c1
  refine w_seq ?_
  refine w_R ?_
  refine qo hnt rfl (s_eql rfl rfl ?_)
  refine qa hnt rfl rfl ?_
  refine r_end ?_
  refine q_then ?_
  refine w_if rfl (fun c2 => ?_) (fun c2 => ?_)
  ·
   have c2_ := c2
   try simp only [sB] at c2
   refine w_skip ?_
   refine q_then ?_
   refine w_if rfl (fun _ => ?_) (fun e => absurd (e.symm.trans c2_) (by decide))
   refine w_seq ?_
   refine w_R ?_
   refine qa hnt rfl rfl ?_
   refine r_end ?_
   refine q_then ?_
   refine w_le (s := 2) (y := pT (usesS n)) rfl (le_of_eq (congrArg (fun z : List UInt8 => pT z) (show ([97,99] : List UInt8) = (usesS n) by first|(simp [usesS, *]; done)|simp [usesS, *]))) ?_
   refine w_ret ?_
   refine q_block_ret ?_
   refine q_then_ret ?_
   exact fin_plain (ret_tmp rfl ret_nil) rfl rfl ⟨rfl,rfl,rfl⟩
  ·
   have c2_ := c2
   try simp only [sB] at c2
   refine w_seq ?_
   refine w_R ?_
   refine qo hnt rfl (s_eql rfl rfl ?_)
   refine qa hnt rfl rfl ?_
   refine r_end ?_
   refine q_then ?_
   refine w_if rfl (fun c3 => ?_) (fun c3 => ?_)
   ·
    have c3_ := c3
    try simp only [sB] at c3
    refine w_skip ?_
    refine q_then ?_
    refine w_if rfl (fun _ => ?_) (fun e => absurd (e.symm.trans c3_) (by decide))
    refine w_seq ?_
    refine w_R ?_
    refine qa hnt rfl rfl ?_
    refine r_end ?_
    refine q_then ?_
    refine w_le (s := 2) (y := pT (usesS n)) rfl (le_of_eq (congrArg (fun z : List UInt8 => pT z) (show ([97,99] : List UInt8) = (usesS n) by first|(simp [usesS, *]; done)|simp [usesS, *]))) ?_
    refine w_ret ?_
    refine q_block_ret ?_
    refine q_then_ret ?_
    exact fin_plain (ret_tmp rfl ret_nil) rfl rfl ⟨rfl,rfl,rfl⟩
   ·
    have c3_ := c3
    try simp only [sB] at c3
    refine w_R ?_
    refine qo hnt rfl (s_eql rfl rfl ?_)
    refine qa hnt rfl rfl ?_
    refine r_end ?_
    refine q_then ?_
    refine w_if rfl (fun c4 => ?_) (fun c4 => ?_)
    ·
     have c4_ := c4
     try simp only [sB] at c4
     refine w_seq ?_
     refine w_R ?_
     refine qa hnt rfl rfl ?_
     refine r_end ?_
     refine q_then ?_
     refine w_le (s := 2) (y := pT (usesS n)) rfl (le_of_eq (congrArg (fun z : List UInt8 => pT z) (show ([97,99] : List UInt8) = (usesS n) by first|(simp [usesS, *]; done)|simp [usesS, *]))) ?_
     refine w_ret ?_
     refine q_block_ret ?_
     refine q_then_ret ?_
     exact fin_plain (ret_tmp rfl ret_nil) rfl rfl ⟨rfl,rfl,rfl⟩
    ·
     have c4_ := c4
     try simp only [sB] at c4
     refine w_seq ?_
     refine w_R ?_
     refine qo hnt rfl (s_eql rfl rfl ?_)
     refine qa hnt rfl rfl ?_
     refine r_end ?_
     refine q_then ?_
     refine w_if rfl (fun c5 => ?_) (fun c5 => ?_)
     ·
      have c5_ := c5
      try simp only [sB] at c5
      refine w_seq ?_
      refine w_R ?_
      refine qa hnt rfl rfl ?_
      refine r_end ?_
      refine q_then ?_
      refine w_le (s := 2) (y := pT (usesS n)) rfl (le_of_eq (congrArg (fun z : List UInt8 => pT z) (show ([97,98] : List UInt8) = (usesS n) by first|(simp [usesS, *]; done)|simp [usesS, *]))) ?_
      refine w_ret ?_
      refine q_block_ret ?_
      refine q_then_ret ?_
      exact fin_plain (ret_tmp rfl ret_nil) rfl rfl ⟨rfl,rfl,rfl⟩
     ·
      have c5_ := c5
      try simp only [sB] at c5
      refine w_seq ?_
      refine w_R ?_
      refine qo hnt rfl (s_eql rfl rfl ?_)
      refine qa hnt rfl rfl ?_
      refine r_end ?_
      refine q_then ?_
      refine w_if rfl (fun c6 => ?_) (fun c6 => ?_)
      ·
       have c6_ := c6
       try simp only [sB] at c6
       refine w_seq ?_
       refine w_R ?_
       refine qa hnt rfl rfl ?_
       refine r_end ?_
       refine q_then ?_
       refine w_le (s := 2) (y := pT (usesS n)) rfl (le_of_eq (congrArg (fun z : List UInt8 => pT z) (show ([97,118] : List UInt8) = (usesS n) by first|(simp [usesS, *]; done)|simp [usesS, *]))) ?_
       refine w_ret ?_
       refine q_block_ret ?_
       refine q_then_ret ?_
       exact fin_plain (ret_tmp rfl ret_nil) rfl rfl ⟨rfl,rfl,rfl⟩
      ·
       have c6_ := c6
       try simp only [sB] at c6
       refine w_seq ?_
       refine w_R ?_
       refine qo hnt rfl (s_eql rfl rfl ?_)
       refine qa hnt rfl rfl ?_
       refine r_end ?_
       refine q_then ?_
       refine w_if rfl (fun c7 => ?_) (fun c7 => ?_)
       ·
        have c7_ := c7
        try simp only [sB] at c7
        refine w_seq ?_
        refine w_R ?_
        refine qa hnt rfl rfl ?_
        refine r_end ?_
        refine q_then ?_
        refine w_le (s := 2) (y := pT (usesS n)) rfl (le_of_eq (congrArg (fun z : List UInt8 => pT z) (show ([115,118] : List UInt8) = (usesS n) by first|(simp [usesS, *]; done)|simp [usesS, *]))) ?_
        refine w_ret ?_
        refine q_block_ret ?_
        refine q_then_ret ?_
        exact fin_plain (ret_tmp rfl ret_nil) rfl rfl ⟨rfl,rfl,rfl⟩
       ·
        have c7_ := c7
        try simp only [sB] at c7
        refine w_seq ?_
        refine w_R ?_
        refine qo hnt rfl (s_eql rfl rfl ?_)
        refine qa hnt rfl rfl ?_
        refine r_end ?_
        refine q_then ?_
        refine w_if rfl (fun c8 => ?_) (fun c8 => ?_)
        ·
         have c8_ := c8
         try simp only [sB] at c8
         refine w_seq ?_
         refine w_R ?_
         refine qa hnt rfl rfl ?_
         refine r_end ?_
         refine q_then ?_
         refine w_le (s := 2) (y := pT (usesS n)) rfl (le_of_eq (congrArg (fun z : List UInt8 => pT z) (show ([97,99,98] : List UInt8) = (usesS n) by first|(simp [usesS, *]; done)|simp [usesS, *]))) ?_
         refine w_ret ?_
         refine q_block_ret ?_
         refine q_then_ret ?_
         exact fin_plain (ret_tmp rfl ret_nil) rfl rfl ⟨rfl,rfl,rfl⟩
        ·
         have c8_ := c8
         try simp only [sB] at c8
         refine w_seq ?_
         refine w_R ?_
         refine qo hnt rfl (s_eql rfl rfl ?_)
         refine qa hnt rfl rfl ?_
         refine r_end ?_
         refine q_then ?_
         refine w_if rfl (fun c9 => ?_) (fun c9 => ?_)
         ·
          have c9_ := c9
          try simp only [sB] at c9
          refine w_seq ?_
          refine w_R ?_
          refine qa hnt rfl rfl ?_
          refine r_end ?_
          refine q_then ?_
          refine w_le (s := 2) (y := pT (usesS n)) rfl (le_of_eq (congrArg (fun z : List UInt8 => pT z) (show ([97,99,118] : List UInt8) = (usesS n) by first|(simp [usesS, *]; done)|simp [usesS, *]))) ?_
          refine w_ret ?_
          refine q_block_ret ?_
          refine q_then_ret ?_
          exact fin_plain (ret_tmp rfl ret_nil) rfl rfl ⟨rfl,rfl,rfl⟩
         ·
          have c9_ := c9
          try simp only [sB] at c9
          refine w_seq ?_
          refine w_R ?_
          refine qo hnt rfl (s_eql rfl rfl ?_)
          refine qa hnt rfl rfl ?_
          refine r_end ?_
          refine q_then ?_
          refine w_if rfl (fun c10 => ?_) (fun c10 => ?_)
          ·
           have c10_ := c10
           try simp only [sB] at c10
           refine w_seq ?_
           refine w_R ?_
           refine qa hnt rfl rfl ?_
           refine r_end ?_
           refine q_then ?_
           refine w_le (s := 2) (y := pT (usesS n)) rfl (le_of_eq (congrArg (fun z : List UInt8 => pT z) (show ([97,109] : List UInt8) = (usesS n) by first|(simp [usesS, *]; done)|simp [usesS, *]))) ?_
           refine w_ret ?_
           refine q_block_ret ?_
           refine q_then_ret ?_
           exact fin_plain (ret_tmp rfl ret_nil) rfl rfl ⟨rfl,rfl,rfl⟩
          ·
           have c10_ := c10
           try simp only [sB] at c10
           refine w_seq ?_
           refine w_R ?_
           refine qo hnt rfl (s_eql rfl rfl ?_)
           refine qa hnt rfl rfl ?_
           refine r_end ?_
           refine q_then ?_
           refine w_if rfl (fun c11 => ?_) (fun c11 => ?_)
           ·
            have c11_ := c11
            try simp only [sB] at c11
            refine w_seq ?_
            refine w_R ?_
            refine qa hnt rfl rfl ?_
            refine r_end ?_
            refine q_then ?_
            refine w_le (s := 2) (y := pT (usesS n)) rfl (le_of_eq (congrArg (fun z : List UInt8 => pT z) (show ([97,99,119,118] : List UInt8) = (usesS n) by first|(simp [usesS, *]; done)|simp [usesS, *]))) ?_
            refine w_ret ?_
            refine q_block_ret ?_
            refine q_then_ret ?_
            exact fin_plain (ret_tmp rfl ret_nil) rfl rfl ⟨rfl,rfl,rfl⟩
           ·
            have c11_ := c11
            try simp only [sB] at c11
            refine w_skip ?_
            refine q_block ?_
            refine q_then ?_
            refine w_seq ?_
            refine w_R ?_
            refine qa hnt rfl rfl ?_
            refine r_end ?_
            refine q_then ?_
            refine w_le (s := 2) (y := pT (usesS n)) rfl (le_of_eq (congrArg (fun z : List UInt8 => pT z) (show ([] : List UInt8) = (usesS n) by first|(simp [usesS, *]; done)|simp [usesS, *]))) ?_
            refine w_ret ?_
            exact fin_plain (ret_tmp rfl ret_nil) rfl rfl ⟨rfl,rfl,rfl⟩
theorem w_burgageref3_in (s : List UInt8) (ch : UInt8) (hs : s.length ≤ 140737488351232) :
    T Try.prog 72 [pT s,p8 ch] 0 [] (Ret (pB (inS s ch)) 0 []) := by
 refine t_fun tabOk (n := 17) (rs := [.tmp 4]) Try.func72 rfl rfl rfl rfl (Nat.le_of_ble_eq_true rfl) ?_
 intro c hnt hk
 refine w_seq ?_
 refine w_R ?_
 refine qa hnt rfl rfl ?_
 refine r_end ?_
 refine q_then ?_
 refine w_seq ?_
 refine w_seq ?_
 refine w_R ?_
 refine qa hnt rfl rfl ?_
 refine r_end ?_
 refine q_then ?_
 refine w_block ?_
 refine loop1 (fun (i : Nat) => i ≤ s.length ∧ ∀ x ∈ s.take i,x ≠ ch) (fun (i : Nat) => [(0,pT s),(1,p8 ch),(5,pN i)]) 0 (fun (i : Nat) => []) (fun (i : Nat) => s.length - i) (0) ?_ ⟨[],rfl,⟨⟨_,rfl,rfl,rfl⟩,⟨_,rfl,rfl,rfl⟩,⟨_,rfl,rfl,rfl⟩,trivial⟩,trivial,by rw [hk]; decide⟩ ?_
 · exact ⟨Nat.zero_le _,by simp⟩
 ·
  intro i hI
  obtain ⟨hi,hn⟩ := hI
  refine w_seq ?_
  refine w_seq ?_
  refine w_R ?_
  refine qm hnt rfl rfl ?_
  refine qm hnt rfl rfl ?_
  refine qo hnt rfl (s_lenT (l := s) tab_9 rfl rfl ?_)
  refine qo hnt rfl (s_lss rfl rfl ?_)
  refine r_end ?_
  refine q_then ?_
  refine w_if rfl (fun c1 => ?_) (fun c1 => ?_)
  ·
   have c1_ := c1
   try simp only [sB] at c1
   refine w_skip ?_
   refine q_then ?_
   refine w_seq ?_
   refine w_block ?_
   refine w_seq ?_
   refine w_R ?_
   refine qm hnt rfl rfl ?_
   refine qm hnt rfl rfl ?_
   obtain ⟨e1,he1⟩ := get_of_lt s (i := i) (by omega)
   refine qo hnt rfl (s_idxM (q := i) (b := e1) (s := s) tab_9 rfl rfl (by omega) rfl he1 ?_)
   refine qm hnt rfl rfl ?_
   refine qo hnt rfl (s_eql8 (a := e1) (b := ch) rfl rfl ?_)
   refine r_end ?_
   refine q_then ?_
   refine w_if rfl (fun c2 => ?_) (fun c2 => ?_)
   ·
    have c2_ := c2
    try simp only [sB] at c2
    refine w_seq ?_
    refine w_R ?_
    refine qa hnt rfl rfl ?_
    refine r_end ?_
    refine q_then ?_
    refine w_le (s := 4) (y := pB (inS s ch)) rfl (le_of_eq (congrArg (fun z : Bool => pB z) (show true = (inS s ch) by unfold inS; exact (decide_eq_true (by rw [← (by simpa using c2 : e1 = ch)]; exact List.mem_of_getElem? he1)).symm))) ?_
    refine w_ret ?_
    refine q_block_ret ?_
    refine q_then_ret ?_
    refine q_then_ret ?_
    refine q_block_ret ?_
    refine q_then_ret ?_
    exact fin_plain (ret_tmp rfl ret_nil) rfl rfl ⟨rfl,rfl,rfl⟩
   ·
    have c2_ := c2
    try simp only [sB] at c2
    refine w_skip ?_
    refine q_block ?_
    refine q_then ?_
    refine w_R ?_
    refine qm hnt rfl rfl ?_
    refine qo hnt rfl (s_addN (a := i) (b := 1) rfl rfl (by omega) (by omega) (by omega) ?_)
    refine qa hnt rfl rfl ?_
    refine r_end ?_
    refine q_then ?_
    refine ⟨(i + 1), ?_, ?_,⟨[],rfl,⟨⟨_,rfl,rfl,rfl⟩,⟨_,rfl,rfl,rfl⟩,⟨_,rfl,rfl,rfl⟩,trivial⟩,trivial,by rw [hk]; decide⟩⟩
    ·
     refine ⟨by omega,fun x hx => ?_⟩
     rw [List.take_add_one,he1] at hx
     rcases List.mem_append.1 hx with h|h
     · exact hn x h
     · simp at h; subst h; simpa using c2
    · omega
  ·
   have c1_ := c1
   try simp only [sB] at c1
   have hn2 : ∀ x ∈ s,x ≠ ch := by rw [List.take_of_length_le (by omega)] at hn; exact hn
   refine w_exit ?_
   refine q_then_exit ?_
   refine q_then_exit ?_
   refine q_block_exit ?_
   refine q_then ?_
   refine w_seq ?_
   refine w_R ?_
   refine qa hnt rfl rfl ?_
   refine r_end ?_
   refine q_then ?_
   refine w_le (s := 4) (y := pB (inS s ch)) rfl (le_of_eq (congrArg (fun z : Bool => pB z) (show false = (inS s ch) by unfold inS; exact (decide_eq_false (fun h => hn2 _ h rfl)).symm))) ?_
   refine w_ret ?_
   exact fin_plain (ret_tmp rfl ret_nil) rfl rfl ⟨rfl,rfl,rfl⟩
theorem w_burgageref3_lists (r : TRequest) (hb : r.bits.length ≤ 140737488351232) (hv : r.vals.length ≤ 140737488351232) :
    T Try.prog 74 [PV.f (eRequest r)] 0 [] (Ret (pB (listsR r)) 0 []) := by
 refine t_fun tabOk (n := 46) (rs := [.tmp 2]) Try.func74 rfl rfl rfl rfl (Nat.le_of_ble_eq_true rfl) ?_
 intro c hnt hk
 refine w_seq ?_
 refine w_R ?_
 refine qo hnt rfl (s_box rfl rfl ?_)
 refine qa hnt rfl rfl ?_
 refine r_set [(1,PV.ptr 0 0)] [(0,.obj [pI r.fn,pI r.at_,pI r.count,pI r.wAt,pI r.sub,pS 1 false encBo r.bits,pS 1 false enc16 r.vals,p16 r.and_,p16 r.or_])] 1 ⟨rfl,trivial⟩ rfl rfl ?_
 refine r_end ?_
 refine q_then ?_
 refine w_seq ?_
 refine W_drawn tabOk mixed hnt [[],[0],[0,1],[],[3],[3,4],[0,1,2],[0,1,2,3,4,5,6]] (by kernel_rfl) ?_
 refine d_op ?_
 refine x_run0 [(1,PV.ptr 0 0)] [] rfl rfl rfl rfl (s_fa_ptr tab_27 rfl rfl tab_23 (by decide) rfl ⟨rfl,rfl,rfl⟩) ?_
 refine d_op ?_
 refine x_run [(5,PV.ptr 0 5)] [0] [(0,.obj [pI r.fn,pI r.at_,pI r.count,pI r.wAt,pI r.sub,pS 1 false encBo r.bits,pS 1 false enc16 r.vals,p16 r.and_,p16 r.or_])] [] [(0,.obj [pI r.fn,pI r.at_,pI r.count,pI r.wAt,pI r.sub,pS 1 false encBo r.bits,pS 1 false enc16 r.vals,p16 r.and_,p16 r.or_])] [] [(0,.obj [pI r.fn,pI r.at_,pI r.count,pI r.wAt,pI r.sub,pS 1 false encBo r.bits,pS 1 false enc16 r.vals,p16 r.and_,p16 r.or_])] rfl rfl rfl rfl rfl rfl (s_load_ptr1 tab_23 rfl rfl rfl rfl rfl ⟨rfl,rfl,rfl⟩) rfl ⟨rfl,trivial⟩ rfl rfl ?_
 refine d_op ?_
 refine x_run0 [(6,pS 1 false encBo r.bits)] [0,1] rfl rfl rfl rfl (s_lenM (l := r.bits) tab_23 rfl (hM_sl (f := encBo) rfl) ⟨rfl,rfl,rfl⟩) ?_
 refine d_op ?_
 refine x_run0 [(1,PV.ptr 0 0)] [] rfl rfl rfl rfl (s_fa_ptr tab_27 rfl rfl tab_24 (by decide) rfl ⟨rfl,rfl,rfl⟩) ?_
 refine d_op ?_
 refine x_run [(8,PV.ptr 0 6)] [3] [(0,.obj [pI r.fn,pI r.at_,pI r.count,pI r.wAt,pI r.sub,pS 1 false encBo r.bits,pS 1 false enc16 r.vals,p16 r.and_,p16 r.or_])] [] [(0,.obj [pI r.fn,pI r.at_,pI r.count,pI r.wAt,pI r.sub,pS 1 false encBo r.bits,pS 1 false enc16 r.vals,p16 r.and_,p16 r.or_])] [] [(0,.obj [pI r.fn,pI r.at_,pI r.count,pI r.wAt,pI r.sub,pS 1 false encBo r.bits,pS 1 false enc16 r.vals,p16 r.and_,p16 r.or_])] rfl rfl rfl rfl rfl rfl (s_load_ptr1 tab_24 rfl rfl rfl rfl rfl ⟨rfl,rfl,rfl⟩) rfl ⟨rfl,trivial⟩ rfl rfl ?_
 refine d_op ?_
 refine x_run0 [(9,pS 1 false enc16 r.vals)] [3,4] rfl rfl rfl rfl (s_lenM (l := r.vals) tab_24 rfl (hM_sl (f := enc16) rfl) ⟨rfl,rfl,rfl⟩) ?_
 refine d_op ?_
 refine x_run0 [(7,pN r.bits.length)] [0,1,2] rfl rfl rfl rfl (s_assign rfl ⟨rfl,rfl,rfl⟩) ?_
 refine d_op ?_
 refine x_run0 [(10,pN r.vals.length)] [0,1,2,3,4,5,6] rfl rfl rfl rfl (s_assign rfl ⟨rfl,rfl,rfl⟩) ?_
 refine d_end ⟨by kernel_rfl, ?_⟩
 refine q_then ?_
 refine w_seq ?_
 refine w_seq ?_
 refine w_R ?_
 refine qo hnt rfl (s_fa_ptr tab_27 rfl rfl tab_3 (by decide) rfl ?_)
 refine qo hnt rfl (s_load_ptr1 tab_3 rfl rfl rfl rfl rfl ?_)
 refine r_end ?_
 refine q_then ?_
 refine w_block ?_
 refine w_seq ?_
 refine w_R ?_
 refine qo hnt rfl (s_eql rfl rfl ?_)
 refine qa hnt rfl rfl ?_
 refine r_end ?_
 refine q_then ?_
 refine w_if rfl (fun c1 => ?_) (fun c1 => ?_)
 ·
  have c1_ := c1
  try simp only [sB] at c1
  refine w_seq ?_
  refine w_R ?_
  refine qm hnt rfl rfl ?_
  refine qo hnt rfl (s_eql rfl rfl ?_)
  refine qa hnt rfl rfl ?_
  refine r_end ?_
  refine q_then ?_
  refine w_le (s := 2) (y := pB (listsR r)) rfl (le_of_eq (congrArg (fun z : Bool => pB z) (show (decide (((r.bits.length : Nat) : Int) = 1)) = (listsR r) by first|exact (listsR_5 (by assumption)).symm|exact (listsR_6 (by assumption)).symm|exact (listsR_8 (by assumption)).symm|exact (listsR_15 (by assumption)).symm|exact (listsR_16 (by assumption)).symm|exact (listsR_23 (by assumption)).symm|exact (listsR_no (by omega)).symm))) ?_
  refine w_ret ?_
  refine q_block_ret ?_
  refine q_then_ret ?_
  exact fin_plain (ret_tmp rfl ret_nil) rfl rfl ⟨rfl,rfl,rfl⟩
 ·
  have c1_ := c1
  try simp only [sB] at c1
  refine w_seq ?_
  refine w_seq ?_
  refine w_R ?_
  refine qo hnt rfl (s_eql rfl rfl ?_)
  refine qa hnt rfl rfl ?_
  refine r_end ?_
  refine q_then ?_
  refine w_if rfl (fun c2 => ?_) (fun c2 => ?_)
  ·
   have c2_ := c2
   try simp only [sB] at c2
   refine w_skip ?_
   refine q_then ?_
   refine w_if rfl (fun _ => ?_) (fun e => absurd (e.symm.trans c2_) (by decide))
   refine w_seq ?_
   refine w_R ?_
   refine qm hnt rfl rfl ?_
   refine qo hnt rfl (s_eql rfl rfl ?_)
   refine qa hnt rfl rfl ?_
   refine r_end ?_
   refine q_then ?_
   refine w_le (s := 2) (y := pB (listsR r)) rfl (le_of_eq (congrArg (fun z : Bool => pB z) (show (decide (((r.vals.length : Nat) : Int) = 1)) = (listsR r) by first|exact (listsR_5 (by assumption)).symm|exact (listsR_6 (by assumption)).symm|exact (listsR_8 (by assumption)).symm|exact (listsR_15 (by assumption)).symm|exact (listsR_16 (by assumption)).symm|exact (listsR_23 (by assumption)).symm|exact (listsR_no (by omega)).symm))) ?_
   refine w_ret ?_
   refine q_block_ret ?_
   refine q_then_ret ?_
   exact fin_plain (ret_tmp rfl ret_nil) rfl rfl ⟨rfl,rfl,rfl⟩
  ·
   have c2_ := c2
   try simp only [sB] at c2
   refine w_R ?_
   refine qo hnt rfl (s_eql rfl rfl ?_)
   refine qa hnt rfl rfl ?_
   refine r_end ?_
   refine q_then ?_
   refine w_if rfl (fun c3 => ?_) (fun c3 => ?_)
   ·
    have c3_ := c3
    try simp only [sB] at c3
    refine w_seq ?_
    refine w_R ?_
    refine qm hnt rfl rfl ?_
    refine qo hnt rfl (s_eql rfl rfl ?_)
    refine qa hnt rfl rfl ?_
    refine r_end ?_
    refine q_then ?_
    refine w_le (s := 2) (y := pB (listsR r)) rfl (le_of_eq (congrArg (fun z : Bool => pB z) (show (decide (((r.vals.length : Nat) : Int) = 1)) = (listsR r) by first|exact (listsR_5 (by assumption)).symm|exact (listsR_6 (by assumption)).symm|exact (listsR_8 (by assumption)).symm|exact (listsR_15 (by assumption)).symm|exact (listsR_16 (by assumption)).symm|exact (listsR_23 (by assumption)).symm|exact (listsR_no (by omega)).symm))) ?_
    refine w_ret ?_
    refine q_block_ret ?_
    refine q_then_ret ?_
    exact fin_plain (ret_tmp rfl ret_nil) rfl rfl ⟨rfl,rfl,rfl⟩
   ·
    have c3_ := c3
    try simp only [sB] at c3
    refine w_seq ?_
    refine w_R ?_
    refine qo hnt rfl (s_eql rfl rfl ?_)
    refine qa hnt rfl rfl ?_
    refine r_end ?_
    refine q_then ?_
    refine w_if rfl (fun c4 => ?_) (fun c4 => ?_)
    ·
     have c4_ := c4
     try simp only [sB] at c4
     refine w_seq ?_
     refine w_R ?_
     refine qm hnt rfl rfl ?_
     refine qo hnt rfl (s_fa_ptr tab_27 rfl rfl tab_3 (by decide) rfl ?_)
     refine qo hnt rfl (s_load_ptr1 tab_3 rfl rfl rfl rfl rfl ?_)
     refine qo hnt rfl (s_eql rfl rfl ?_)
     refine qm hnt rfl rfl ?_
     refine r_cut0 3 [(31,pB ((decide (((r.bits.length : Nat) : Int) = r.count)) && (decide (((r.bits.length : Nat) : Int) ≤ 2040))))] ?_ ?_
     ·
      refine r_if tabOk hnt rfl rfl rfl (fun g1 => ?_) (fun g1 => ?_)
      ·
       have g1' := g1
       try simp only [sB] at g1'
       refine qm hnt rfl rfl ?_
       refine ry hnt rfl rfl rfl g1 ?_
       refine qo hnt rfl (s_leq rfl rfl ?_)
       refine qo hnt rfl (s_pick_t rfl g1 rfl ?_)
       refine r_eq (s := 31) (y := pB ((decide (((r.bits.length : Nat) : Int) = r.count)) && (decide (((r.bits.length : Nat) : Int) ≤ 2040)))) rfl (mix_at g1) ?_
       exact r_mid ⟨⟨rfl,trivial⟩,rfl,rfl⟩
      ·
       have g1' := g1
       try simp only [sB] at g1'
       refine rn hnt rfl rfl rfl g1 ?_
       refine qo hnt rfl (s_pick_f rfl g1 rfl ?_)
       refine r_eq (s := 31) (y := pB ((decide (((r.bits.length : Nat) : Int) = r.count)) && (decide (((r.bits.length : Nat) : Int) ≤ 2040)))) rfl (mix_af _ g1) ?_
       exact r_mid ⟨⟨rfl,trivial⟩,rfl,rfl⟩
     ·
      refine qa hnt rfl rfl ?_
      refine r_end ?_
      refine q_then ?_
      refine w_le (s := 2) (y := pB (listsR r)) rfl (le_of_eq (congrArg (fun z : Bool => pB z) (show ((decide (((r.bits.length : Nat) : Int) = r.count)) && (decide (((r.bits.length : Nat) : Int) ≤ 2040))) = (listsR r) by first|exact (listsR_5 (by assumption)).symm|exact (listsR_6 (by assumption)).symm|exact (listsR_8 (by assumption)).symm|exact (listsR_15 (by assumption)).symm|exact (listsR_16 (by assumption)).symm|exact (listsR_23 (by assumption)).symm|exact (listsR_no (by omega)).symm))) ?_
      refine w_ret ?_
      refine q_block_ret ?_
      refine q_then_ret ?_
      exact fin_plain (ret_tmp rfl ret_nil) rfl rfl ⟨rfl,rfl,rfl⟩
    ·
     have c4_ := c4
     try simp only [sB] at c4
     refine w_seq ?_
     refine w_R ?_
     refine qo hnt rfl (s_eql rfl rfl ?_)
     refine qa hnt rfl rfl ?_
     refine r_end ?_
     refine q_then ?_
     refine w_if rfl (fun c5 => ?_) (fun c5 => ?_)
     ·
      have c5_ := c5
      try simp only [sB] at c5
      refine w_seq ?_
      refine w_R ?_
      refine qm hnt rfl rfl ?_
      refine qo hnt rfl (s_fa_ptr tab_27 rfl rfl tab_3 (by decide) rfl ?_)
      refine qo hnt rfl (s_load_ptr1 tab_3 rfl rfl rfl rfl rfl ?_)
      refine qo hnt rfl (s_eql rfl rfl ?_)
      refine qm hnt rfl rfl ?_
      refine r_cut0 3 [(41,pB ((decide (((r.vals.length : Nat) : Int) = r.count)) && (decide (((r.vals.length : Nat) : Int) ≤ 127))))] ?_ ?_
      ·
       refine r_if tabOk hnt rfl rfl rfl (fun g2 => ?_) (fun g2 => ?_)
       ·
        have g2' := g2
        try simp only [sB] at g2'
        refine qm hnt rfl rfl ?_
        refine ry hnt rfl rfl rfl g2 ?_
        refine qo hnt rfl (s_leq rfl rfl ?_)
        refine qo hnt rfl (s_pick_t rfl g2 rfl ?_)
        refine r_eq (s := 41) (y := pB ((decide (((r.vals.length : Nat) : Int) = r.count)) && (decide (((r.vals.length : Nat) : Int) ≤ 127)))) rfl (mix_at g2) ?_
        exact r_mid ⟨⟨rfl,trivial⟩,rfl,rfl⟩
       ·
        have g2' := g2
        try simp only [sB] at g2'
        refine rn hnt rfl rfl rfl g2 ?_
        refine qo hnt rfl (s_pick_f rfl g2 rfl ?_)
        refine r_eq (s := 41) (y := pB ((decide (((r.vals.length : Nat) : Int) = r.count)) && (decide (((r.vals.length : Nat) : Int) ≤ 127)))) rfl (mix_af _ g2) ?_
        exact r_mid ⟨⟨rfl,trivial⟩,rfl,rfl⟩
      ·
       refine qa hnt rfl rfl ?_
       refine r_end ?_
       refine q_then ?_
       refine w_le (s := 2) (y := pB (listsR r)) rfl (le_of_eq (congrArg (fun z : Bool => pB z) (show ((decide (((r.vals.length : Nat) : Int) = r.count)) && (decide (((r.vals.length : Nat) : Int) ≤ 127))) = (listsR r) by first|exact (listsR_5 (by assumption)).symm|exact (listsR_6 (by assumption)).symm|exact (listsR_8 (by assumption)).symm|exact (listsR_15 (by assumption)).symm|exact (listsR_16 (by assumption)).symm|exact (listsR_23 (by assumption)).symm|exact (listsR_no (by omega)).symm))) ?_
       refine w_ret ?_
       refine q_block_ret ?_
       refine q_then_ret ?_
       exact fin_plain (ret_tmp rfl ret_nil) rfl rfl ⟨rfl,rfl,rfl⟩
     ·
      have c5_ := c5
      try simp only [sB] at c5
      refine w_seq ?_
      refine w_R ?_
      refine qo hnt rfl (s_eql rfl rfl ?_)
      refine qa hnt rfl rfl ?_
      refine r_end ?_
      refine q_then ?_
      refine w_if rfl (fun c6 => ?_) (fun c6 => ?_)
      ·
       have c6_ := c6
       try simp only [sB] at c6
       refine w_seq ?_
       refine w_R ?_
       refine qm hnt rfl rfl ?_
       refine qo hnt rfl (s_leq rfl rfl ?_)
       refine qa hnt rfl rfl ?_
       refine r_end ?_
       refine q_then ?_
       refine w_le (s := 2) (y := pB (listsR r)) rfl (le_of_eq (congrArg (fun z : Bool => pB z) (show (decide (((r.vals.length : Nat) : Int) ≤ 127)) = (listsR r) by first|exact (listsR_5 (by assumption)).symm|exact (listsR_6 (by assumption)).symm|exact (listsR_8 (by assumption)).symm|exact (listsR_15 (by assumption)).symm|exact (listsR_16 (by assumption)).symm|exact (listsR_23 (by assumption)).symm|exact (listsR_no (by omega)).symm))) ?_
       refine w_ret ?_
       refine q_block_ret ?_
       refine q_then_ret ?_
       exact fin_plain (ret_tmp rfl ret_nil) rfl rfl ⟨rfl,rfl,rfl⟩
      ·
       have c6_ := c6
       try simp only [sB] at c6
       refine w_skip ?_
       refine q_block ?_
       refine q_then ?_
       refine w_seq ?_
       refine w_R ?_
       refine qa hnt rfl rfl ?_
       refine r_end ?_
       refine q_then ?_
       refine w_le (s := 2) (y := pB (listsR r)) rfl (le_of_eq (congrArg (fun z : Bool => pB z) (show true = (listsR r) by first|exact (listsR_5 (by assumption)).symm|exact (listsR_6 (by assumption)).symm|exact (listsR_8 (by assumption)).symm|exact (listsR_15 (by assumption)).symm|exact (listsR_16 (by assumption)).symm|exact (listsR_23 (by assumption)).symm|exact (listsR_no (by omega)).symm))) ?_
       refine w_ret ?_
       exact fin_plain (ret_tmp rfl ret_nil) rfl rfl ⟨rfl,rfl,rfl⟩
theorem w_burgageref3_Right (r : TRequest) (hb : r.bits.length ≤ 140737488351232) (hv : r.vals.length ≤ 140737488351232) :
    T Try.prog 47 [PV.f (eRequest r)] 0 [] (Ret (pI (rightR r)) 0 []) := by
 refine t_fun tabOk (n := 113) (rs := [.tmp 2]) Try.func47 rfl rfl rfl rfl (Nat.le_of_ble_eq_true rfl) ?_
 intro c hnt hk
 refine w_seq ?_
 refine w_R ?_
 refine qo hnt rfl (s_box rfl rfl ?_)
 refine qa hnt rfl rfl ?_
 refine r_set [(1,PV.ptr 0 0)] [(0,.obj [pI r.fn,pI r.at_,pI r.count,pI r.wAt,pI r.sub,pS 1 false encBo r.bits,pS 1 false enc16 r.vals,p16 r.and_,p16 r.or_])] 1 ⟨rfl,trivial⟩ rfl rfl ?_
 refine r_end ?_
 refine q_then ?_
 refine w_seq ?_
 refine w_seq ?_
 refine w_R ?_
 refine qo hnt rfl (s_fa_ptr tab_27 rfl rfl tab_3 (by decide) rfl ?_)
 refine qo hnt rfl (s_load_ptr1 tab_3 rfl rfl rfl rfl rfl ?_)
 refine qo hnt rfl (s_callF rfl rfl rfl (w_burgageref3_Has r.fn) rfl ?_)
 refine qo hnt rfl (s_not rfl ?_)
 refine r_end ?_
 refine q_then ?_
 refine w_if rfl (fun c1 => ?_) (fun c1 => ?_)
 ·
  have c1_ := c1
  try simp only [sB] at c1
  refine w_seq ?_
  refine w_R ?_
  refine qa hnt rfl rfl ?_
  refine r_end ?_
  refine q_then ?_
  refine w_le (s := 2) (y := pI (rightR r)) rfl (le_of_eq (congrArg (fun z : Int => pI z) (show 15 = (rightR r) by exact (rightR_1 c1_).symm))) ?_
  refine w_ret ?_
  refine q_then_ret ?_
  exact fin_plain (ret_tmp rfl ret_nil) rfl rfl ⟨rfl,rfl,rfl⟩
 ·
  have c1_ := c1
  try simp only [sB] at c1
  refine w_skip ?_
  refine q_then ?_
  refine w_seq ?_
  refine w_R ?_
  refine qo hnt rfl (s_fa_ptr tab_27 rfl rfl tab_3 (by decide) rfl ?_)
  refine qo hnt rfl (s_load_ptr1 tab_3 rfl rfl rfl rfl rfl ?_)
  refine qo hnt rfl (s_callF rfl rfl rfl (w_burgageref3_uses r.fn) rfl ?_)
  refine qa hnt rfl rfl ?_
  refine r_end ?_
  refine q_then ?_
  refine w_seq ?_
  refine w_seq ?_
  refine w_R ?_
  refine qm hnt rfl rfl ?_
  refine qo hnt rfl (s_callF rfl rfl rfl (w_burgageref3_in (usesS r.fn) 97 (by have := usesS_len r.fn; omega)) rfl ?_)
  refine qo hnt rfl (s_not rfl ?_)
  refine qm hnt rfl rfl ?_
  refine r_cut0 4 [(1,PV.ptr 0 0),(3,pT (usesS r.fn)),(18,pB ((!(inS (usesS r.fn) 97)) && (!decide (r.at_ = 0))))] ?_ ?_
  ·
   refine r_if tabOk hnt rfl rfl rfl (fun g1 => ?_) (fun g1 => ?_)
   ·
    have g1' := g1
    try simp only [sB] at g1'
    refine qo hnt rfl (s_fa_ptr tab_27 rfl rfl tab_3 (by decide) rfl ?_)
    refine ry hnt rfl rfl rfl g1 ?_
    refine qo hnt rfl (s_load_ptr1 tab_3 rfl rfl rfl rfl rfl ?_)
    refine ry hnt rfl rfl rfl g1 ?_
    refine qo hnt rfl (s_neq rfl rfl ?_)
    refine qo hnt rfl (s_pick_t rfl g1 rfl ?_)
    refine r_eq (s := 18) (y := pB ((!(inS (usesS r.fn) 97)) && (!decide (r.at_ = 0)))) rfl (mix_at g1) ?_
    exact r_mid ⟨⟨rfl,rfl,rfl,trivial⟩,rfl,rfl⟩
   ·
    have g1' := g1
    try simp only [sB] at g1'
    refine rn hnt rfl rfl rfl g1 ?_
    refine rn hnt rfl rfl rfl g1 ?_
    refine qo hnt rfl (s_pick_f rfl g1 rfl ?_)
    refine r_eq (s := 18) (y := pB ((!(inS (usesS r.fn) 97)) && (!decide (r.at_ = 0)))) rfl (mix_af _ g1) ?_
    exact r_mid ⟨⟨rfl,rfl,rfl,trivial⟩,rfl,rfl⟩
  ·
   refine qm hnt rfl rfl ?_
   refine r_cut0 9 [(1,PV.ptr 0 0),(3,pT (usesS r.fn)),(28,pB (((!(inS (usesS r.fn) 97)) && (!decide (r.at_ = 0))) || ((!(inS (usesS r.fn) 99)) && (!decide (r.count = 0)))))] ?_ ?_
   ·
    refine r_if tabOk hnt rfl rfl rfl (fun g2 => ?_) (fun g2 => ?_)
    ·
     have g2' := g2
     try simp only [sB] at g2'
     refine qm hnt rfl rfl ?_
     refine ry hnt rfl rfl rfl g2 ?_
     refine qo hnt rfl (s_callF rfl rfl rfl (w_burgageref3_in (usesS r.fn) 99 (by have := usesS_len r.fn; omega)) rfl ?_)
     refine ry hnt rfl rfl rfl g2 ?_
     refine qo hnt rfl (s_not rfl ?_)
     refine ry hnt rfl rfl rfl g2 ?_
     refine qm hnt rfl rfl ?_
     refine r_cut0 4 [(1,PV.ptr 0 0),(3,pT (usesS r.fn)),(19,pB ((!(inS (usesS r.fn) 97)) && (!decide (r.at_ = 0)))),(27,pB ((!(inS (usesS r.fn) 99)) && (!decide (r.count = 0))))] ?_ ?_
     ·
      refine r_if tabOk hnt rfl rfl rfl (fun g3 => ?_) (fun g3 => ?_)
      ·
       have g3' := g3
       try simp only [sB] at g3'
       refine qo hnt rfl (s_fa_ptr tab_27 rfl rfl tab_3 (by decide) rfl ?_)
       refine ry hnt rfl rfl rfl g3 ?_
       refine qo hnt rfl (s_load_ptr1 tab_3 rfl rfl rfl rfl rfl ?_)
       refine ry hnt rfl rfl rfl g3 ?_
       refine qo hnt rfl (s_neq rfl rfl ?_)
       refine ry hnt rfl rfl rfl g2 ?_
       refine qo hnt rfl (s_pick_t rfl g3 rfl ?_)
       refine r_eq (s := 27) (y := pB ((!(inS (usesS r.fn) 99)) && (!decide (r.count = 0)))) rfl (mix_at g3) ?_
       exact r_mid ⟨⟨rfl,rfl,rfl,rfl,trivial⟩,rfl,rfl⟩
      ·
       have g3' := g3
       try simp only [sB] at g3'
       refine rn hnt rfl rfl rfl g3 ?_
       refine rn hnt rfl rfl rfl g3 ?_
       refine ry hnt rfl rfl rfl g2 ?_
       refine qo hnt rfl (s_pick_f rfl g3 rfl ?_)
       refine r_eq (s := 27) (y := pB ((!(inS (usesS r.fn) 99)) && (!decide (r.count = 0)))) rfl (mix_af _ g3) ?_
       exact r_mid ⟨⟨rfl,rfl,rfl,rfl,trivial⟩,rfl,rfl⟩
     ·
      refine qo hnt rfl (s_pick_f rfl g2 rfl ?_)
      refine r_eq (s := 28) (y := pB (((!(inS (usesS r.fn) 97)) && (!decide (r.at_ = 0))) || ((!(inS (usesS r.fn) 99)) && (!decide (r.count = 0))))) rfl (mix_of g2) ?_
      exact r_mid ⟨⟨rfl,rfl,rfl,trivial⟩,rfl,rfl⟩
    ·
     have g2' := g2
     try simp only [sB] at g2'
     refine rn hnt rfl rfl rfl g2 ?_
     refine rn hnt rfl rfl rfl g2 ?_
     refine rn hnt rfl rfl rfl g2 ?_
     refine ru hnt rfl rfl rfl ?_
     refine ru hnt rfl rfl rfl ?_
     refine ru hnt rfl rfl rfl ?_
     refine rn hnt rfl rfl rfl g2 ?_
     refine qo hnt rfl (s_pick_t rfl g2 rfl ?_)
     refine r_eq (s := 28) (y := pB (((!(inS (usesS r.fn) 97)) && (!decide (r.at_ = 0))) || ((!(inS (usesS r.fn) 99)) && (!decide (r.count = 0))))) rfl (mix_ot _ g2) ?_
     exact r_mid ⟨⟨rfl,rfl,rfl,trivial⟩,rfl,rfl⟩
   ·
    refine qm hnt rfl rfl ?_
    refine r_cut0 9 [(1,PV.ptr 0 0),(3,pT (usesS r.fn)),(38,pB ((((!(inS (usesS r.fn) 97)) && (!decide (r.at_ = 0))) || ((!(inS (usesS r.fn) 99)) && (!decide (r.count = 0)))) || ((!(inS (usesS r.fn) 119)) && (!decide (r.wAt = 0)))))] ?_ ?_
    ·
     refine r_if tabOk hnt rfl rfl rfl (fun g4 => ?_) (fun g4 => ?_)
     ·
      have g4' := g4
      try simp only [sB] at g4'
      refine qm hnt rfl rfl ?_
      refine ry hnt rfl rfl rfl g4 ?_
      refine qo hnt rfl (s_callF rfl rfl rfl (w_burgageref3_in (usesS r.fn) 119 (by have := usesS_len r.fn; omega)) rfl ?_)
      refine ry hnt rfl rfl rfl g4 ?_
      refine qo hnt rfl (s_not rfl ?_)
      refine ry hnt rfl rfl rfl g4 ?_
      refine qm hnt rfl rfl ?_
      refine r_cut0 4 [(1,PV.ptr 0 0),(3,pT (usesS r.fn)),(29,pB (((!(inS (usesS r.fn) 97)) && (!decide (r.at_ = 0))) || ((!(inS (usesS r.fn) 99)) && (!decide (r.count = 0))))),(37,pB ((!(inS (usesS r.fn) 119)) && (!decide (r.wAt = 0))))] ?_ ?_
      ·
       refine r_if tabOk hnt rfl rfl rfl (fun g5 => ?_) (fun g5 => ?_)
       ·
        have g5' := g5
        try simp only [sB] at g5'
        refine qo hnt rfl (s_fa_ptr tab_27 rfl rfl tab_3 (by decide) rfl ?_)
        refine ry hnt rfl rfl rfl g5 ?_
        refine qo hnt rfl (s_load_ptr1 tab_3 rfl rfl rfl rfl rfl ?_)
        refine ry hnt rfl rfl rfl g5 ?_
        refine qo hnt rfl (s_neq rfl rfl ?_)
        refine ry hnt rfl rfl rfl g4 ?_
        refine qo hnt rfl (s_pick_t rfl g5 rfl ?_)
        refine r_eq (s := 37) (y := pB ((!(inS (usesS r.fn) 119)) && (!decide (r.wAt = 0)))) rfl (mix_at g5) ?_
        exact r_mid ⟨⟨rfl,rfl,rfl,rfl,trivial⟩,rfl,rfl⟩
       ·
        have g5' := g5
        try simp only [sB] at g5'
        refine rn hnt rfl rfl rfl g5 ?_
        refine rn hnt rfl rfl rfl g5 ?_
        refine ry hnt rfl rfl rfl g4 ?_
        refine qo hnt rfl (s_pick_f rfl g5 rfl ?_)
        refine r_eq (s := 37) (y := pB ((!(inS (usesS r.fn) 119)) && (!decide (r.wAt = 0)))) rfl (mix_af _ g5) ?_
        exact r_mid ⟨⟨rfl,rfl,rfl,rfl,trivial⟩,rfl,rfl⟩
      ·
       refine qo hnt rfl (s_pick_f rfl g4 rfl ?_)
       refine r_eq (s := 38) (y := pB ((((!(inS (usesS r.fn) 97)) && (!decide (r.at_ = 0))) || ((!(inS (usesS r.fn) 99)) && (!decide (r.count = 0)))) || ((!(inS (usesS r.fn) 119)) && (!decide (r.wAt = 0))))) rfl (mix_of g4) ?_
       exact r_mid ⟨⟨rfl,rfl,rfl,trivial⟩,rfl,rfl⟩
     ·
      have g4' := g4
      try simp only [sB] at g4'
      refine rn hnt rfl rfl rfl g4 ?_
      refine rn hnt rfl rfl rfl g4 ?_
      refine rn hnt rfl rfl rfl g4 ?_
      refine ru hnt rfl rfl rfl ?_
      refine ru hnt rfl rfl rfl ?_
      refine ru hnt rfl rfl rfl ?_
      refine rn hnt rfl rfl rfl g4 ?_
      refine qo hnt rfl (s_pick_t rfl g4 rfl ?_)
      refine r_eq (s := 38) (y := pB ((((!(inS (usesS r.fn) 97)) && (!decide (r.at_ = 0))) || ((!(inS (usesS r.fn) 99)) && (!decide (r.count = 0)))) || ((!(inS (usesS r.fn) 119)) && (!decide (r.wAt = 0))))) rfl (mix_ot _ g4) ?_
      exact r_mid ⟨⟨rfl,rfl,rfl,trivial⟩,rfl,rfl⟩
    ·
     refine qm hnt rfl rfl ?_
     refine r_cut0 9 [(1,PV.ptr 0 0),(3,pT (usesS r.fn)),(48,pB (((((!(inS (usesS r.fn) 97)) && (!decide (r.at_ = 0))) || ((!(inS (usesS r.fn) 99)) && (!decide (r.count = 0)))) || ((!(inS (usesS r.fn) 119)) && (!decide (r.wAt = 0)))) || ((!(inS (usesS r.fn) 115)) && (!decide (r.sub = 0)))))] ?_ ?_
     ·
      refine r_if tabOk hnt rfl rfl rfl (fun g6 => ?_) (fun g6 => ?_)
      ·
       have g6' := g6
       try simp only [sB] at g6'
       refine qm hnt rfl rfl ?_
       refine ry hnt rfl rfl rfl g6 ?_
       refine qo hnt rfl (s_callF rfl rfl rfl (w_burgageref3_in (usesS r.fn) 115 (by have := usesS_len r.fn; omega)) rfl ?_)
       refine ry hnt rfl rfl rfl g6 ?_
       refine qo hnt rfl (s_not rfl ?_)
       refine ry hnt rfl rfl rfl g6 ?_
       refine qm hnt rfl rfl ?_
       refine r_cut0 4 [(1,PV.ptr 0 0),(3,pT (usesS r.fn)),(39,pB ((((!(inS (usesS r.fn) 97)) && (!decide (r.at_ = 0))) || ((!(inS (usesS r.fn) 99)) && (!decide (r.count = 0)))) || ((!(inS (usesS r.fn) 119)) && (!decide (r.wAt = 0))))),(47,pB ((!(inS (usesS r.fn) 115)) && (!decide (r.sub = 0))))] ?_ ?_
       ·
        refine r_if tabOk hnt rfl rfl rfl (fun g7 => ?_) (fun g7 => ?_)
        ·
         have g7' := g7
         try simp only [sB] at g7'
         refine qo hnt rfl (s_fa_ptr tab_27 rfl rfl tab_3 (by decide) rfl ?_)
         refine ry hnt rfl rfl rfl g7 ?_
         refine qo hnt rfl (s_load_ptr1 tab_3 rfl rfl rfl rfl rfl ?_)
         refine ry hnt rfl rfl rfl g7 ?_
         refine qo hnt rfl (s_neq rfl rfl ?_)
         refine ry hnt rfl rfl rfl g6 ?_
         refine qo hnt rfl (s_pick_t rfl g7 rfl ?_)
         refine r_eq (s := 47) (y := pB ((!(inS (usesS r.fn) 115)) && (!decide (r.sub = 0)))) rfl (mix_at g7) ?_
         exact r_mid ⟨⟨rfl,rfl,rfl,rfl,trivial⟩,rfl,rfl⟩
        ·
         have g7' := g7
         try simp only [sB] at g7'
         refine rn hnt rfl rfl rfl g7 ?_
         refine rn hnt rfl rfl rfl g7 ?_
         refine ry hnt rfl rfl rfl g6 ?_
         refine qo hnt rfl (s_pick_f rfl g7 rfl ?_)
         refine r_eq (s := 47) (y := pB ((!(inS (usesS r.fn) 115)) && (!decide (r.sub = 0)))) rfl (mix_af _ g7) ?_
         exact r_mid ⟨⟨rfl,rfl,rfl,rfl,trivial⟩,rfl,rfl⟩
       ·
        refine qo hnt rfl (s_pick_f rfl g6 rfl ?_)
        refine r_eq (s := 48) (y := pB (((((!(inS (usesS r.fn) 97)) && (!decide (r.at_ = 0))) || ((!(inS (usesS r.fn) 99)) && (!decide (r.count = 0)))) || ((!(inS (usesS r.fn) 119)) && (!decide (r.wAt = 0)))) || ((!(inS (usesS r.fn) 115)) && (!decide (r.sub = 0))))) rfl (mix_of g6) ?_
        exact r_mid ⟨⟨rfl,rfl,rfl,trivial⟩,rfl,rfl⟩
      ·
       have g6' := g6
       try simp only [sB] at g6'
       refine rn hnt rfl rfl rfl g6 ?_
       refine rn hnt rfl rfl rfl g6 ?_
       refine rn hnt rfl rfl rfl g6 ?_
       refine ru hnt rfl rfl rfl ?_
       refine ru hnt rfl rfl rfl ?_
       refine ru hnt rfl rfl rfl ?_
       refine rn hnt rfl rfl rfl g6 ?_
       refine qo hnt rfl (s_pick_t rfl g6 rfl ?_)
       refine r_eq (s := 48) (y := pB (((((!(inS (usesS r.fn) 97)) && (!decide (r.at_ = 0))) || ((!(inS (usesS r.fn) 99)) && (!decide (r.count = 0)))) || ((!(inS (usesS r.fn) 119)) && (!decide (r.wAt = 0)))) || ((!(inS (usesS r.fn) 115)) && (!decide (r.sub = 0))))) rfl (mix_ot _ g6) ?_
       exact r_mid ⟨⟨rfl,rfl,rfl,trivial⟩,rfl,rfl⟩
     ·
      refine qm hnt rfl rfl ?_
      refine r_cut0 10 [(1,PV.ptr 0 0),(3,pT (usesS r.fn)),(59,pB ((((((!(inS (usesS r.fn) 97)) && (!decide (r.at_ = 0))) || ((!(inS (usesS r.fn) 99)) && (!decide (r.count = 0)))) || ((!(inS (usesS r.fn) 119)) && (!decide (r.wAt = 0)))) || ((!(inS (usesS r.fn) 115)) && (!decide (r.sub = 0)))) || ((!(inS (usesS r.fn) 98)) && (decide (0 < ((r.bits.length : Nat) : Int))))))] ?_ ?_
      ·
       refine r_if tabOk hnt rfl rfl rfl (fun g8 => ?_) (fun g8 => ?_)
       ·
        have g8' := g8
        try simp only [sB] at g8'
        refine qm hnt rfl rfl ?_
        refine ry hnt rfl rfl rfl g8 ?_
        refine qo hnt rfl (s_callF rfl rfl rfl (w_burgageref3_in (usesS r.fn) 98 (by have := usesS_len r.fn; omega)) rfl ?_)
        refine ry hnt rfl rfl rfl g8 ?_
        refine qo hnt rfl (s_not rfl ?_)
        refine ry hnt rfl rfl rfl g8 ?_
        refine qm hnt rfl rfl ?_
        refine r_cut0 5 [(1,PV.ptr 0 0),(3,pT (usesS r.fn)),(49,pB (((((!(inS (usesS r.fn) 97)) && (!decide (r.at_ = 0))) || ((!(inS (usesS r.fn) 99)) && (!decide (r.count = 0)))) || ((!(inS (usesS r.fn) 119)) && (!decide (r.wAt = 0)))) || ((!(inS (usesS r.fn) 115)) && (!decide (r.sub = 0))))),(58,pB ((!(inS (usesS r.fn) 98)) && (decide (0 < ((r.bits.length : Nat) : Int)))))] ?_ ?_
        ·
         refine r_if tabOk hnt rfl rfl rfl (fun g9 => ?_) (fun g9 => ?_)
         ·
          have g9' := g9
          try simp only [sB] at g9'
          refine qo hnt rfl (s_fa_ptr tab_27 rfl rfl tab_23 (by decide) rfl ?_)
          refine ry hnt rfl rfl rfl g9 ?_
          refine qo hnt rfl (s_load_ptr1 tab_23 rfl rfl rfl rfl rfl ?_)
          refine ry hnt rfl rfl rfl g9 ?_
          refine qo hnt rfl (s_lenM (l := r.bits) tab_23 rfl (hM_sl (f := encBo) rfl) ?_)
          refine ry hnt rfl rfl rfl g9 ?_
          refine qo hnt rfl (s_gtr rfl rfl ?_)
          refine ry hnt rfl rfl rfl g8 ?_
          refine qo hnt rfl (s_pick_t rfl g9 rfl ?_)
          refine r_eq (s := 58) (y := pB ((!(inS (usesS r.fn) 98)) && (decide (0 < ((r.bits.length : Nat) : Int))))) rfl (mix_at g9) ?_
          exact r_mid ⟨⟨rfl,rfl,rfl,rfl,trivial⟩,rfl,rfl⟩
         ·
          have g9' := g9
          try simp only [sB] at g9'
          refine rn hnt rfl rfl rfl g9 ?_
          refine rn hnt rfl rfl rfl g9 ?_
          refine rn hnt rfl rfl rfl g9 ?_
          refine ry hnt rfl rfl rfl g8 ?_
          refine qo hnt rfl (s_pick_f rfl g9 rfl ?_)
          refine r_eq (s := 58) (y := pB ((!(inS (usesS r.fn) 98)) && (decide (0 < ((r.bits.length : Nat) : Int))))) rfl (mix_af _ g9) ?_
          exact r_mid ⟨⟨rfl,rfl,rfl,rfl,trivial⟩,rfl,rfl⟩
        ·
         refine qo hnt rfl (s_pick_f rfl g8 rfl ?_)
         refine r_eq (s := 59) (y := pB ((((((!(inS (usesS r.fn) 97)) && (!decide (r.at_ = 0))) || ((!(inS (usesS r.fn) 99)) && (!decide (r.count = 0)))) || ((!(inS (usesS r.fn) 119)) && (!decide (r.wAt = 0)))) || ((!(inS (usesS r.fn) 115)) && (!decide (r.sub = 0)))) || ((!(inS (usesS r.fn) 98)) && (decide (0 < ((r.bits.length : Nat) : Int)))))) rfl (mix_of g8) ?_
         exact r_mid ⟨⟨rfl,rfl,rfl,trivial⟩,rfl,rfl⟩
       ·
        have g8' := g8
        try simp only [sB] at g8'
        refine rn hnt rfl rfl rfl g8 ?_
        refine rn hnt rfl rfl rfl g8 ?_
        refine rn hnt rfl rfl rfl g8 ?_
        refine ru hnt rfl rfl rfl ?_
        refine ru hnt rfl rfl rfl ?_
        refine ru hnt rfl rfl rfl ?_
        refine ru hnt rfl rfl rfl ?_
        refine rn hnt rfl rfl rfl g8 ?_
        refine qo hnt rfl (s_pick_t rfl g8 rfl ?_)
        refine r_eq (s := 59) (y := pB ((((((!(inS (usesS r.fn) 97)) && (!decide (r.at_ = 0))) || ((!(inS (usesS r.fn) 99)) && (!decide (r.count = 0)))) || ((!(inS (usesS r.fn) 119)) && (!decide (r.wAt = 0)))) || ((!(inS (usesS r.fn) 115)) && (!decide (r.sub = 0)))) || ((!(inS (usesS r.fn) 98)) && (decide (0 < ((r.bits.length : Nat) : Int)))))) rfl (mix_ot _ g8) ?_
        exact r_mid ⟨⟨rfl,rfl,rfl,trivial⟩,rfl,rfl⟩
      ·
       refine qm hnt rfl rfl ?_
       refine r_cut0 10 [(1,PV.ptr 0 0),(3,pT (usesS r.fn)),(70,pB (((((((!(inS (usesS r.fn) 97)) && (!decide (r.at_ = 0))) || ((!(inS (usesS r.fn) 99)) && (!decide (r.count = 0)))) || ((!(inS (usesS r.fn) 119)) && (!decide (r.wAt = 0)))) || ((!(inS (usesS r.fn) 115)) && (!decide (r.sub = 0)))) || ((!(inS (usesS r.fn) 98)) && (decide (0 < ((r.bits.length : Nat) : Int))))) || ((!(inS (usesS r.fn) 118)) && (decide (0 < ((r.vals.length : Nat) : Int))))))] ?_ ?_
       ·
        refine r_if tabOk hnt rfl rfl rfl (fun g10 => ?_) (fun g10 => ?_)
        ·
         have g10' := g10
         try simp only [sB] at g10'
         refine qm hnt rfl rfl ?_
         refine ry hnt rfl rfl rfl g10 ?_
         refine qo hnt rfl (s_callF rfl rfl rfl (w_burgageref3_in (usesS r.fn) 118 (by have := usesS_len r.fn; omega)) rfl ?_)
         refine ry hnt rfl rfl rfl g10 ?_
         refine qo hnt rfl (s_not rfl ?_)
         refine ry hnt rfl rfl rfl g10 ?_
         refine qm hnt rfl rfl ?_
         refine r_cut0 5 [(1,PV.ptr 0 0),(3,pT (usesS r.fn)),(60,pB ((((((!(inS (usesS r.fn) 97)) && (!decide (r.at_ = 0))) || ((!(inS (usesS r.fn) 99)) && (!decide (r.count = 0)))) || ((!(inS (usesS r.fn) 119)) && (!decide (r.wAt = 0)))) || ((!(inS (usesS r.fn) 115)) && (!decide (r.sub = 0)))) || ((!(inS (usesS r.fn) 98)) && (decide (0 < ((r.bits.length : Nat) : Int)))))),(69,pB ((!(inS (usesS r.fn) 118)) && (decide (0 < ((r.vals.length : Nat) : Int)))))] ?_ ?_
         ·
          refine r_if tabOk hnt rfl rfl rfl (fun g11 => ?_) (fun g11 => ?_)
          ·
           have g11' := g11
           try simp only [sB] at g11'
           refine qo hnt rfl (s_fa_ptr tab_27 rfl rfl tab_24 (by decide) rfl ?_)
           refine ry hnt rfl rfl rfl g11 ?_
           refine qo hnt rfl (s_load_ptr1 tab_24 rfl rfl rfl rfl rfl ?_)
           refine ry hnt rfl rfl rfl g11 ?_
           refine qo hnt rfl (s_lenM (l := r.vals) tab_24 rfl (hM_sl (f := enc16) rfl) ?_)
           refine ry hnt rfl rfl rfl g11 ?_
           refine qo hnt rfl (s_gtr rfl rfl ?_)
           refine ry hnt rfl rfl rfl g10 ?_
           refine qo hnt rfl (s_pick_t rfl g11 rfl ?_)
           refine r_eq (s := 69) (y := pB ((!(inS (usesS r.fn) 118)) && (decide (0 < ((r.vals.length : Nat) : Int))))) rfl (mix_at g11) ?_
           exact r_mid ⟨⟨rfl,rfl,rfl,rfl,trivial⟩,rfl,rfl⟩
          ·
           have g11' := g11
           try simp only [sB] at g11'
           refine rn hnt rfl rfl rfl g11 ?_
           refine rn hnt rfl rfl rfl g11 ?_
           refine rn hnt rfl rfl rfl g11 ?_
           refine ry hnt rfl rfl rfl g10 ?_
           refine qo hnt rfl (s_pick_f rfl g11 rfl ?_)
           refine r_eq (s := 69) (y := pB ((!(inS (usesS r.fn) 118)) && (decide (0 < ((r.vals.length : Nat) : Int))))) rfl (mix_af _ g11) ?_
           exact r_mid ⟨⟨rfl,rfl,rfl,rfl,trivial⟩,rfl,rfl⟩
         ·
          refine qo hnt rfl (s_pick_f rfl g10 rfl ?_)
          refine r_eq (s := 70) (y := pB (((((((!(inS (usesS r.fn) 97)) && (!decide (r.at_ = 0))) || ((!(inS (usesS r.fn) 99)) && (!decide (r.count = 0)))) || ((!(inS (usesS r.fn) 119)) && (!decide (r.wAt = 0)))) || ((!(inS (usesS r.fn) 115)) && (!decide (r.sub = 0)))) || ((!(inS (usesS r.fn) 98)) && (decide (0 < ((r.bits.length : Nat) : Int))))) || ((!(inS (usesS r.fn) 118)) && (decide (0 < ((r.vals.length : Nat) : Int)))))) rfl (mix_of g10) ?_
          exact r_mid ⟨⟨rfl,rfl,rfl,trivial⟩,rfl,rfl⟩
        ·
         have g10' := g10
         try simp only [sB] at g10'
         refine rn hnt rfl rfl rfl g10 ?_
         refine rn hnt rfl rfl rfl g10 ?_
         refine rn hnt rfl rfl rfl g10 ?_
         refine ru hnt rfl rfl rfl ?_
         refine ru hnt rfl rfl rfl ?_
         refine ru hnt rfl rfl rfl ?_
         refine ru hnt rfl rfl rfl ?_
         refine rn hnt rfl rfl rfl g10 ?_
         refine qo hnt rfl (s_pick_t rfl g10 rfl ?_)
         refine r_eq (s := 70) (y := pB (((((((!(inS (usesS r.fn) 97)) && (!decide (r.at_ = 0))) || ((!(inS (usesS r.fn) 99)) && (!decide (r.count = 0)))) || ((!(inS (usesS r.fn) 119)) && (!decide (r.wAt = 0)))) || ((!(inS (usesS r.fn) 115)) && (!decide (r.sub = 0)))) || ((!(inS (usesS r.fn) 98)) && (decide (0 < ((r.bits.length : Nat) : Int))))) || ((!(inS (usesS r.fn) 118)) && (decide (0 < ((r.vals.length : Nat) : Int)))))) rfl (mix_ot _ g10) ?_
         exact r_mid ⟨⟨rfl,rfl,rfl,trivial⟩,rfl,rfl⟩
       ·
        refine qm hnt rfl rfl ?_
        refine r_cut0 14 [(1,PV.ptr 0 0),(85,pB ((((((((!(inS (usesS r.fn) 97)) && (!decide (r.at_ = 0))) || ((!(inS (usesS r.fn) 99)) && (!decide (r.count = 0)))) || ((!(inS (usesS r.fn) 119)) && (!decide (r.wAt = 0)))) || ((!(inS (usesS r.fn) 115)) && (!decide (r.sub = 0)))) || ((!(inS (usesS r.fn) 98)) && (decide (0 < ((r.bits.length : Nat) : Int))))) || ((!(inS (usesS r.fn) 118)) && (decide (0 < ((r.vals.length : Nat) : Int))))) || ((!(inS (usesS r.fn) 109)) && ((!decide (r.and_ = 0)) || (!decide (r.or_ = 0))))))] ?_ ?_
        ·
         refine r_if tabOk hnt rfl rfl rfl (fun g12 => ?_) (fun g12 => ?_)
         ·
          have g12' := g12
          try simp only [sB] at g12'
          refine qm hnt rfl rfl ?_
          refine ry hnt rfl rfl rfl g12 ?_
          refine qo hnt rfl (s_callF rfl rfl rfl (w_burgageref3_in (usesS r.fn) 109 (by have := usesS_len r.fn; omega)) rfl ?_)
          refine ry hnt rfl rfl rfl g12 ?_
          refine qo hnt rfl (s_not rfl ?_)
          refine ry hnt rfl rfl rfl g12 ?_
          refine qm hnt rfl rfl ?_
          refine r_cut0 9 [(1,PV.ptr 0 0),(71,pB (((((((!(inS (usesS r.fn) 97)) && (!decide (r.at_ = 0))) || ((!(inS (usesS r.fn) 99)) && (!decide (r.count = 0)))) || ((!(inS (usesS r.fn) 119)) && (!decide (r.wAt = 0)))) || ((!(inS (usesS r.fn) 115)) && (!decide (r.sub = 0)))) || ((!(inS (usesS r.fn) 98)) && (decide (0 < ((r.bits.length : Nat) : Int))))) || ((!(inS (usesS r.fn) 118)) && (decide (0 < ((r.vals.length : Nat) : Int)))))),(84,pB ((!(inS (usesS r.fn) 109)) && ((!decide (r.and_ = 0)) || (!decide (r.or_ = 0)))))] ?_ ?_
          ·
           refine r_if tabOk hnt rfl rfl rfl (fun g13 => ?_) (fun g13 => ?_)
           ·
            have g13' := g13
            try simp only [sB] at g13'
            refine qo hnt rfl (s_fa_ptr tab_27 rfl rfl tab_25 (by decide) rfl ?_)
            refine ry hnt rfl rfl rfl g13 ?_
            refine qo hnt rfl (s_load_ptr1 tab_25 rfl rfl rfl rfl rfl ?_)
            refine ry hnt rfl rfl rfl g13 ?_
            refine qo hnt rfl (s_neq16 (a := r.and_) (b := 0) rfl rfl ?_)
            refine ry hnt rfl rfl rfl g13 ?_
            refine qm hnt rfl rfl ?_
            refine r_cut0 4 [(1,PV.ptr 0 0),(71,pB (((((((!(inS (usesS r.fn) 97)) && (!decide (r.at_ = 0))) || ((!(inS (usesS r.fn) 99)) && (!decide (r.count = 0)))) || ((!(inS (usesS r.fn) 119)) && (!decide (r.wAt = 0)))) || ((!(inS (usesS r.fn) 115)) && (!decide (r.sub = 0)))) || ((!(inS (usesS r.fn) 98)) && (decide (0 < ((r.bits.length : Nat) : Int))))) || ((!(inS (usesS r.fn) 118)) && (decide (0 < ((r.vals.length : Nat) : Int)))))),(75,pB (!(inS (usesS r.fn) 109))),(83,pB ((!decide (r.and_ = 0)) || (!decide (r.or_ = 0))))] ?_ ?_
            ·
             refine r_if tabOk hnt rfl rfl rfl (fun g14 => ?_) (fun g14 => ?_)
             ·
              have g14' := g14
              try simp only [sB] at g14'
              refine qo hnt rfl (s_fa_ptr tab_27 rfl rfl tab_25 (by decide) rfl ?_)
              refine ry hnt rfl rfl rfl g14 ?_
              refine qo hnt rfl (s_load_ptr1 tab_25 rfl rfl rfl rfl rfl ?_)
              refine ry hnt rfl rfl rfl g14 ?_
              refine qo hnt rfl (s_neq16 (a := r.or_) (b := 0) rfl rfl ?_)
              refine ry hnt rfl rfl rfl g13 ?_
              refine qo hnt rfl (s_pick_f rfl g14 rfl ?_)
              refine r_eq (s := 83) (y := pB ((!decide (r.and_ = 0)) || (!decide (r.or_ = 0)))) rfl (mix_of g14) ?_
              exact r_mid ⟨⟨rfl,rfl,rfl,rfl,trivial⟩,rfl,rfl⟩
             ·
              have g14' := g14
              try simp only [sB] at g14'
              refine rn hnt rfl rfl rfl g14 ?_
              refine rn hnt rfl rfl rfl g14 ?_
              refine ry hnt rfl rfl rfl g13 ?_
              refine qo hnt rfl (s_pick_t rfl g14 rfl ?_)
              refine r_eq (s := 83) (y := pB ((!decide (r.and_ = 0)) || (!decide (r.or_ = 0)))) rfl (mix_ot _ g14) ?_
              exact r_mid ⟨⟨rfl,rfl,rfl,rfl,trivial⟩,rfl,rfl⟩
            ·
             refine ry hnt rfl rfl rfl g12 ?_
             refine qo hnt rfl (s_pick_t rfl g13 rfl ?_)
             refine r_eq (s := 84) (y := pB ((!(inS (usesS r.fn) 109)) && ((!decide (r.and_ = 0)) || (!decide (r.or_ = 0))))) rfl (mix_at g13) ?_
             exact r_mid ⟨⟨rfl,rfl,rfl,trivial⟩,rfl,rfl⟩
           ·
            have g13' := g13
            try simp only [sB] at g13'
            refine rn hnt rfl rfl rfl g13 ?_
            refine rn hnt rfl rfl rfl g13 ?_
            refine rn hnt rfl rfl rfl g13 ?_
            refine ru hnt rfl rfl rfl ?_
            refine ru hnt rfl rfl rfl ?_
            refine ru hnt rfl rfl rfl ?_
            refine rn hnt rfl rfl rfl g13 ?_
            refine ry hnt rfl rfl rfl g12 ?_
            refine qo hnt rfl (s_pick_f rfl g13 rfl ?_)
            refine r_eq (s := 84) (y := pB ((!(inS (usesS r.fn) 109)) && ((!decide (r.and_ = 0)) || (!decide (r.or_ = 0))))) rfl (mix_af _ g13) ?_
            exact r_mid ⟨⟨rfl,rfl,rfl,trivial⟩,rfl,rfl⟩
          ·
           refine qo hnt rfl (s_pick_f rfl g12 rfl ?_)
           refine r_eq (s := 85) (y := pB ((((((((!(inS (usesS r.fn) 97)) && (!decide (r.at_ = 0))) || ((!(inS (usesS r.fn) 99)) && (!decide (r.count = 0)))) || ((!(inS (usesS r.fn) 119)) && (!decide (r.wAt = 0)))) || ((!(inS (usesS r.fn) 115)) && (!decide (r.sub = 0)))) || ((!(inS (usesS r.fn) 98)) && (decide (0 < ((r.bits.length : Nat) : Int))))) || ((!(inS (usesS r.fn) 118)) && (decide (0 < ((r.vals.length : Nat) : Int))))) || ((!(inS (usesS r.fn) 109)) && ((!decide (r.and_ = 0)) || (!decide (r.or_ = 0)))))) rfl (mix_of g12) ?_
           exact r_mid ⟨⟨rfl,rfl,trivial⟩,rfl,rfl⟩
         ·
          have g12' := g12
          try simp only [sB] at g12'
          refine rn hnt rfl rfl rfl g12 ?_
          refine rn hnt rfl rfl rfl g12 ?_
          refine rn hnt rfl rfl rfl g12 ?_
          refine ru hnt rfl rfl rfl ?_
          refine ru hnt rfl rfl rfl ?_
          refine ru hnt rfl rfl rfl ?_
          refine ru hnt rfl rfl rfl ?_
          refine ru hnt rfl rfl rfl ?_
          refine ru hnt rfl rfl rfl ?_
          refine ru hnt rfl rfl rfl ?_
          refine ru hnt rfl rfl rfl ?_
          refine rn hnt rfl rfl rfl g12 ?_
          refine qo hnt rfl (s_pick_t rfl g12 rfl ?_)
          refine r_eq (s := 85) (y := pB ((((((((!(inS (usesS r.fn) 97)) && (!decide (r.at_ = 0))) || ((!(inS (usesS r.fn) 99)) && (!decide (r.count = 0)))) || ((!(inS (usesS r.fn) 119)) && (!decide (r.wAt = 0)))) || ((!(inS (usesS r.fn) 115)) && (!decide (r.sub = 0)))) || ((!(inS (usesS r.fn) 98)) && (decide (0 < ((r.bits.length : Nat) : Int))))) || ((!(inS (usesS r.fn) 118)) && (decide (0 < ((r.vals.length : Nat) : Int))))) || ((!(inS (usesS r.fn) 109)) && ((!decide (r.and_ = 0)) || (!decide (r.or_ = 0)))))) rfl (mix_ot _ g12) ?_
          exact r_mid ⟨⟨rfl,rfl,trivial⟩,rfl,rfl⟩
        ·
         refine r_end ?_
         refine q_then ?_
         refine w_if rfl (fun c2 => ?_) (fun c2 => ?_)
         ·
          have c2_ := c2
          try simp only [sB] at c2
          refine w_seq ?_
          refine w_R ?_
          refine qa hnt rfl rfl ?_
          refine r_end ?_
          refine q_then ?_
          refine w_le (s := 2) (y := pI (rightR r)) rfl (le_of_eq (congrArg (fun z : Int => pI z) (show 12 = (rightR r) by exact (rightR_2 c1_ c2_).symm))) ?_
          refine w_ret ?_
          refine q_then_ret ?_
          exact fin_plain (ret_tmp rfl ret_nil) rfl rfl ⟨rfl,rfl,rfl⟩
         ·
          have c2_ := c2
          try simp only [sB] at c2
          refine w_skip ?_
          refine q_then ?_
          refine w_seq ?_
          refine w_seq ?_
          refine w_R ?_
          refine qo hnt rfl (s_fa_ptr tab_27 rfl rfl tab_3 (by decide) rfl ?_)
          refine qo hnt rfl (s_load_ptr1 tab_3 rfl rfl rfl rfl rfl ?_)
          refine qo hnt rfl (s_callF rfl rfl rfl (w_burgageref3_word r.at_) rfl ?_)
          refine qo hnt rfl (s_not rfl ?_)
          refine qm hnt rfl rfl ?_
          refine r_cut0 5 [(1,PV.ptr 0 0),(95,pB ((!(wordOk r.at_)) || (!(wordOk r.count))))] ?_ ?_
          ·
           refine r_if tabOk hnt rfl rfl rfl (fun g15 => ?_) (fun g15 => ?_)
           ·
            have g15' := g15
            try simp only [sB] at g15'
            refine qo hnt rfl (s_fa_ptr tab_27 rfl rfl tab_3 (by decide) rfl ?_)
            refine ry hnt rfl rfl rfl g15 ?_
            refine qo hnt rfl (s_load_ptr1 tab_3 rfl rfl rfl rfl rfl ?_)
            refine ry hnt rfl rfl rfl g15 ?_
            refine qo hnt rfl (s_callF rfl rfl rfl (w_burgageref3_word r.count) rfl ?_)
            refine ry hnt rfl rfl rfl g15 ?_
            refine qo hnt rfl (s_not rfl ?_)
            refine qo hnt rfl (s_pick_f rfl g15 rfl ?_)
            refine r_eq (s := 95) (y := pB ((!(wordOk r.at_)) || (!(wordOk r.count)))) rfl (mix_of g15) ?_
            exact r_mid ⟨⟨rfl,rfl,trivial⟩,rfl,rfl⟩
           ·
            have g15' := g15
            try simp only [sB] at g15'
            refine rn hnt rfl rfl rfl g15 ?_
            refine rn hnt rfl rfl rfl g15 ?_
            refine rn hnt rfl rfl rfl g15 ?_
            refine qo hnt rfl (s_pick_t rfl g15 rfl ?_)
            refine r_eq (s := 95) (y := pB ((!(wordOk r.at_)) || (!(wordOk r.count)))) rfl (mix_ot _ g15) ?_
            exact r_mid ⟨⟨rfl,rfl,trivial⟩,rfl,rfl⟩
          ·
           refine qm hnt rfl rfl ?_
           refine r_cut0 5 [(1,PV.ptr 0 0),(101,pB (((!(wordOk r.at_)) || (!(wordOk r.count))) || (!(wordOk r.wAt))))] ?_ ?_
           ·
            refine r_if tabOk hnt rfl rfl rfl (fun g16 => ?_) (fun g16 => ?_)
            ·
             have g16' := g16
             try simp only [sB] at g16'
             refine qo hnt rfl (s_fa_ptr tab_27 rfl rfl tab_3 (by decide) rfl ?_)
             refine ry hnt rfl rfl rfl g16 ?_
             refine qo hnt rfl (s_load_ptr1 tab_3 rfl rfl rfl rfl rfl ?_)
             refine ry hnt rfl rfl rfl g16 ?_
             refine qo hnt rfl (s_callF rfl rfl rfl (w_burgageref3_word r.wAt) rfl ?_)
             refine ry hnt rfl rfl rfl g16 ?_
             refine qo hnt rfl (s_not rfl ?_)
             refine qo hnt rfl (s_pick_f rfl g16 rfl ?_)
             refine r_eq (s := 101) (y := pB (((!(wordOk r.at_)) || (!(wordOk r.count))) || (!(wordOk r.wAt)))) rfl (mix_of g16) ?_
             exact r_mid ⟨⟨rfl,rfl,trivial⟩,rfl,rfl⟩
            ·
             have g16' := g16
             try simp only [sB] at g16'
             refine rn hnt rfl rfl rfl g16 ?_
             refine rn hnt rfl rfl rfl g16 ?_
             refine rn hnt rfl rfl rfl g16 ?_
             refine qo hnt rfl (s_pick_t rfl g16 rfl ?_)
             refine r_eq (s := 101) (y := pB (((!(wordOk r.at_)) || (!(wordOk r.count))) || (!(wordOk r.wAt)))) rfl (mix_ot _ g16) ?_
             exact r_mid ⟨⟨rfl,rfl,trivial⟩,rfl,rfl⟩
           ·
            refine qm hnt rfl rfl ?_
            refine r_cut0 5 [(1,PV.ptr 0 0),(107,pB ((((!(wordOk r.at_)) || (!(wordOk r.count))) || (!(wordOk r.wAt))) || (!(wordOk r.sub))))] ?_ ?_
            ·
             refine r_if tabOk hnt rfl rfl rfl (fun g17 => ?_) (fun g17 => ?_)
             ·
              have g17' := g17
              try simp only [sB] at g17'
              refine qo hnt rfl (s_fa_ptr tab_27 rfl rfl tab_3 (by decide) rfl ?_)
              refine ry hnt rfl rfl rfl g17 ?_
              refine qo hnt rfl (s_load_ptr1 tab_3 rfl rfl rfl rfl rfl ?_)
              refine ry hnt rfl rfl rfl g17 ?_
              refine qo hnt rfl (s_callF rfl rfl rfl (w_burgageref3_word r.sub) rfl ?_)
              refine ry hnt rfl rfl rfl g17 ?_
              refine qo hnt rfl (s_not rfl ?_)
              refine qo hnt rfl (s_pick_f rfl g17 rfl ?_)
              refine r_eq (s := 107) (y := pB ((((!(wordOk r.at_)) || (!(wordOk r.count))) || (!(wordOk r.wAt))) || (!(wordOk r.sub)))) rfl (mix_of g17) ?_
              exact r_mid ⟨⟨rfl,rfl,trivial⟩,rfl,rfl⟩
             ·
              have g17' := g17
              try simp only [sB] at g17'
              refine rn hnt rfl rfl rfl g17 ?_
              refine rn hnt rfl rfl rfl g17 ?_
              refine rn hnt rfl rfl rfl g17 ?_
              refine qo hnt rfl (s_pick_t rfl g17 rfl ?_)
              refine r_eq (s := 107) (y := pB ((((!(wordOk r.at_)) || (!(wordOk r.count))) || (!(wordOk r.wAt))) || (!(wordOk r.sub)))) rfl (mix_ot _ g17) ?_
              exact r_mid ⟨⟨rfl,rfl,trivial⟩,rfl,rfl⟩
            ·
             refine qm hnt rfl rfl ?_
             refine r_cut0 4 [(112,pB (((((!(wordOk r.at_)) || (!(wordOk r.count))) || (!(wordOk r.wAt))) || (!(wordOk r.sub))) || (!(listsR r))))] ?_ ?_
             ·
              refine r_if tabOk hnt rfl rfl rfl (fun g18 => ?_) (fun g18 => ?_)
              ·
               have g18' := g18
               try simp only [sB] at g18'
               refine qo hnt rfl (s_load_ptr tab_27 rfl rfl rfl (Nat.le_of_ble_eq_true rfl) ?_)
               refine ry hnt rfl rfl rfl g18 ?_
               refine qo hnt rfl (s_callF rfl rfl rfl (w_burgageref3_lists r (by first|omega|assumption|(simp; omega)|decide|(simp; done)) (by first|omega|assumption|(simp; omega)|decide|(simp; done))) rfl ?_)
               refine ry hnt rfl rfl rfl g18 ?_
               refine qo hnt rfl (s_not rfl ?_)
               refine qo hnt rfl (s_pick_f rfl g18 rfl ?_)
               refine r_eq (s := 112) (y := pB (((((!(wordOk r.at_)) || (!(wordOk r.count))) || (!(wordOk r.wAt))) || (!(wordOk r.sub))) || (!(listsR r)))) rfl (mix_of g18) ?_
               exact r_mid ⟨⟨rfl,trivial⟩,rfl,rfl⟩
              ·
               have g18' := g18
               try simp only [sB] at g18'
               refine rn hnt rfl rfl rfl g18 ?_
               refine rn hnt rfl rfl rfl g18 ?_
               refine qo hnt rfl (s_pick_t rfl g18 rfl ?_)
               refine r_eq (s := 112) (y := pB (((((!(wordOk r.at_)) || (!(wordOk r.count))) || (!(wordOk r.wAt))) || (!(wordOk r.sub))) || (!(listsR r)))) rfl (mix_ot _ g18) ?_
               exact r_mid ⟨⟨rfl,trivial⟩,rfl,rfl⟩
             ·
              refine r_end ?_
              refine q_then ?_
              refine w_if rfl (fun c3 => ?_) (fun c3 => ?_)
              ·
               have c3_ := c3
               try simp only [sB] at c3
               refine w_seq ?_
               refine w_R ?_
               refine qa hnt rfl rfl ?_
               refine r_end ?_
               refine q_then ?_
               refine w_le (s := 2) (y := pI (rightR r)) rfl (le_of_eq (congrArg (fun z : Int => pI z) (show 12 = (rightR r) by exact (rightR_3 c1_ c2_ c3_).symm))) ?_
               refine w_ret ?_
               refine q_then_ret ?_
               exact fin_plain (ret_tmp rfl ret_nil) rfl rfl ⟨rfl,rfl,rfl⟩
              ·
               have c3_ := c3
               try simp only [sB] at c3
               refine w_skip ?_
               refine q_then ?_
               refine w_seq ?_
               refine w_R ?_
               refine qa hnt rfl rfl ?_
               refine r_end ?_
               refine q_then ?_
               refine w_le (s := 2) (y := pI (rightR r)) rfl (le_of_eq (congrArg (fun z : Int => pI z) (show 0 = (rightR r) by exact (rightR_4 c1_ c2_ c3_).symm))) ?_
               refine w_ret ?_
               exact fin_plain (ret_tmp rfl ret_nil) rfl rfl ⟨rfl,rfl,rfl⟩
theorem w_burgageref3_row (b : List UInt8) (wr : Bool) (x : List UInt8) (cl_x : Bool) (hb : b.length ≤ 1000) (hx : x.length ≤ 70000000000000) :
    T Try.prog 76 [PV.ref 0 0 none,pS 1 cl_x enc8 x] 1 [(0,oB wr 1 enc8 b)] (Ret (PV.ref 1 0 none) 2 [(1,oB wr 1 enc8 (b ++ rowX x))]) := by
 refine t_fun tabOk (n := 13) (rs := [.tmp 4]) Try.func76 rfl rfl rfl rfl (Nat.le_of_ble_eq_true rfl) ?_
 intro c hnt hk
 refine w_seq ?_
 refine w_R ?_
 refine qa hnt rfl rfl ?_
 refine r_end ?_
 refine q_then ?_
 refine w_seq ?_
 refine w_R ?_
 refine qm hnt rfl rfl ?_
 refine qm hnt rfl rfl ?_
 refine qo hnt rfl (s_lenM (l := x) tab_34 rfl (hM_sl (f := enc8) rfl) ?_)
 refine qo hnt rfl (s_cv8N (a := x.length) tab_3 tab_5 rfl rfl rfl (by omega) ?_)
 refine qo hnt rfl (s_mkM (f := enc8) [UInt8.ofNat x.length] tab_34 rfl tab_5 ⟨rfl,by decide⟩ (by decide) rfl rfl rfl rfl ?_)
 refine qo hnt rfl (s_appR0 (f := enc8) (l := b) (xs := [UInt8.ofNat x.length]) tab_34 rfl tab_5 ⟨rfl,by decide,by decide⟩ (srcM tab_34 rfl (hM_ref0 (f := enc8) rfl rfl)) rfl rfl (by first|omega|(simp; omega)) ?_)
 refine qm hnt rfl rfl ?_
 refine qo hnt rfl (s_appR0 (f := enc8) (l := b ++ [UInt8.ofNat x.length]) (xs := x) tab_34 rfl tab_5 ⟨rfl,by decide,by decide⟩ (srcM tab_34 rfl (hM_sl (f := enc8) rfl)) rfl rfl (by first|omega|(simp; omega)) ?_)
 refine qa hnt rfl rfl ?_
 refine r_set [(4,PV.ref 3 0 none)] [(3,oB wr 1 enc8 ((b ++ [UInt8.ofNat x.length]) ++ x)),(1,oB true 1 enc8 [UInt8.ofNat x.length])] 4 ⟨rfl,trivial⟩ rfl rfl ?_
 refine r_end ?_
 refine q_then ?_
 refine w_H (H' := [(3,oB wr 1 enc8 (b ++ rowX x)),(1,oB true 1 enc8 [UInt8.ofNat x.length])]) (congrArg (fun z => ([(3,oB wr 1 enc8 z),(1,oB true 1 enc8 [UInt8.ofNat x.length])] : Heap)) (show (b ++ [UInt8.ofNat x.length]) ++ x = b ++ rowX x by simp [rowX])) ?_
 refine w_ret ?_
 exact fin_names (nx1 := 2) (H1 := [(1,oB wr 1 enc8 (b ++ rowX x))]) [(1,3)] (ret_tmp rfl ret_nil) rfl (by decide) ⟨⟨_,_,rfl,rfl,rfl,rfl⟩,trivial⟩ (by decide) rfl ⟨rfl,rfl,rfl⟩
theorem w_burgageref3_write (r : TRequest) (hb : r.bits.length ≤ 140737488351232) (hv : r.vals.length ≤ 1000000) (h5 : r.fn = 5 → 1 ≤ r.bits.length) (h6 : (r.fn = 6 ∨ r.fn = 8) → 1 ≤ r.vals.length) :
    T Try.prog 48 [PV.f (eRequest r)] 0 [] (Ret (PV.ref 0 0 none) 1 [(0,oB false 1 enc8 (writeR r))]) := by
 refine t_fun tabOk (n := 106) (rs := [.tmp 2]) Try.func48 rfl rfl rfl rfl (Nat.le_of_ble_eq_true rfl) ?_
 intro c hnt hk
 refine w_seq ?_
 refine w_R ?_
 refine qo hnt rfl (s_box rfl rfl ?_)
 refine qa hnt rfl rfl ?_
 refine r_set [(1,PV.ptr 0 0)] [(0,.obj [pI r.fn,pI r.at_,pI r.count,pI r.wAt,pI r.sub,pS 1 false encBo r.bits,pS 1 false enc16 r.vals,p16 r.and_,p16 r.or_])] 1 ⟨rfl,trivial⟩ rfl rfl ?_
 refine r_end ?_
 refine q_then ?_
 refine w_seq ?_
 refine w_R ?_
 refine qo hnt rfl (s_fa_ptr tab_27 rfl rfl tab_3 (by decide) rfl ?_)
 refine qo hnt rfl (s_load_ptr1 tab_3 rfl rfl rfl rfl rfl ?_)
 refine qo hnt rfl (s_cv8 tab_3 tab_5 rfl rfl rfl ?_)
 refine qo hnt rfl (s_mkM (f := enc8) [u8I r.fn] tab_34 rfl tab_5 ⟨rfl,by decide⟩ (by decide) rfl rfl rfl rfl ?_)
 refine qa hnt rfl rfl ?_
 refine r_set [(1,PV.ptr 0 0),(3,PV.ref 1 0 none)] [(1,oB true 1 enc8 [u8I r.fn]),(0,.obj [pI r.fn,pI r.at_,pI r.count,pI r.wAt,pI r.sub,pS 1 false encBo r.bits,pS 1 false enc16 r.vals,p16 r.and_,p16 r.or_])] 2 ⟨rfl,rfl,trivial⟩ rfl rfl ?_
 refine r_end ?_
 refine q_then ?_
 refine w_seq ?_
 refine w_R ?_
 refine qm hnt rfl rfl ?_
 refine qo hnt rfl (s_fa_ptr tab_27 rfl rfl tab_3 (by decide) rfl ?_)
 refine qo hnt rfl (s_load_ptr1 tab_3 rfl rfl rfl rfl rfl ?_)
 refine qo hnt rfl (s_callX (r2 := PV.ref 2 0 none) (nx1 := 3) (H2 := [(1,oB false 1 enc8 [u8I r.fn]),(0,.obj [pI r.fn,pI r.at_,pI r.count,pI r.wAt,pI r.sub,pS 1 false encBo r.bits,pS 1 false enc16 r.vals,p16 r.and_,p16 r.or_])]) (H3 := [(2,oB true 1 enc8 ([u8I r.fn] ++ put2 r.at_)),(1,oB false 1 enc8 [u8I r.fn]),(0,.obj [pI r.fn,pI r.at_,pI r.count,pI r.wAt,pI r.sub,pS 1 false encBo r.bits,pS 1 false enc16 r.vals,p16 r.and_,p16 r.or_])]) [] [] rfl rfl rfl (handed_of (by decide) trivial) rfl rfl rfl rfl rfl rfl (w_burgageref1_Put [u8I r.fn] false r.at_ (by first|omega|assumption|(simp; omega)|decide|(simp; done))) rfl (dist_of rfl) rfl rfl rfl rfl ?_)
 refine qa hnt rfl rfl ?_
 refine r_set [(1,PV.ptr 0 0),(3,PV.ref 1 0 none),(4,PV.ref 2 0 none)] [(2,oB true 1 enc8 ([u8I r.fn] ++ put2 r.at_)),(1,oB false 1 enc8 [u8I r.fn]),(0,.obj [pI r.fn,pI r.at_,pI r.count,pI r.wAt,pI r.sub,pS 1 false encBo r.bits,pS 1 false enc16 r.vals,p16 r.and_,p16 r.or_])] 3 ⟨rfl,rfl,rfl,trivial⟩ rfl rfl ?_
 refine r_end ?_
 refine q_then ?_
 refine w_seq ?_
 refine w_seq ?_
 refine w_R ?_
 refine qo hnt rfl (s_fa_ptr tab_27 rfl rfl tab_3 (by decide) rfl ?_)
 refine qo hnt rfl (s_load_ptr1 tab_3 rfl rfl rfl rfl rfl ?_)
 refine r_end ?_
 refine q_then ?_
 refine w_block ?_
 refine w_seq ?_
 refine w_seq ?_
 refine w_R ?_
 refine qo hnt rfl (s_eql rfl rfl ?_)
 refine qa hnt rfl rfl ?_
 refine r_end ?_
 refine q_then ?_
 refine w_if rfl (fun c1 => ?_) (fun c1 => ?_)
 ·
  have c1_ := c1
  try simp only [sB] at c1
  refine w_skip ?_
  refine q_then ?_
  refine w_if rfl (fun _ => ?_) (fun e => absurd (e.symm.trans c1_) (by decide))
  refine w_seq ?_
  refine w_R ?_
  refine qm hnt rfl rfl ?_
  refine qo hnt rfl (s_fa_ptr tab_27 rfl rfl tab_3 (by decide) rfl ?_)
  refine qo hnt rfl (s_load_ptr1 tab_3 rfl rfl rfl rfl rfl ?_)
  refine qo hnt rfl (s_callX (r2 := PV.ref 3 0 none) (nx1 := 4) (H2 := [(2,oB false 1 enc8 ([u8I r.fn] ++ put2 r.at_)),(1,oB false 1 enc8 [u8I r.fn]),(0,.obj [pI r.fn,pI r.at_,pI r.count,pI r.wAt,pI r.sub,pS 1 false encBo r.bits,pS 1 false enc16 r.vals,p16 r.and_,p16 r.or_])]) (H3 := [(3,oB true 1 enc8 (([u8I r.fn] ++ put2 r.at_) ++ put2 r.count)),(2,oB false 1 enc8 ([u8I r.fn] ++ put2 r.at_)),(1,oB false 1 enc8 [u8I r.fn]),(0,.obj [pI r.fn,pI r.at_,pI r.count,pI r.wAt,pI r.sub,pS 1 false encBo r.bits,pS 1 false enc16 r.vals,p16 r.and_,p16 r.or_])]) [] [] rfl rfl rfl (handed_of (by decide) trivial) rfl rfl rfl rfl rfl rfl (w_burgageref1_Put ([u8I r.fn] ++ put2 r.at_) false r.count (by first|omega|assumption|(simp; omega)|decide|(simp; done))) rfl (dist_of rfl) rfl rfl rfl rfl ?_)
  refine qa hnt rfl rfl ?_
  refine r_set [(2,PV.ref 3 0 none)] [(3,oB true 1 enc8 (([u8I r.fn] ++ put2 r.at_) ++ put2 r.count)),(2,oB false 1 enc8 ([u8I r.fn] ++ put2 r.at_)),(1,oB false 1 enc8 [u8I r.fn]),(0,.obj [pI r.fn,pI r.at_,pI r.count,pI r.wAt,pI r.sub,pS 1 false encBo r.bits,pS 1 false enc16 r.vals,p16 r.and_,p16 r.or_])] 4 ⟨rfl,trivial⟩ rfl rfl ?_
  refine r_end ?_
  refine q_then ?_
  refine w_low (n := 3) rfl ?_
  refine w_H (H' := [(3,oB false 1 enc8 (writeR r)),(2,oB false 1 enc8 ([u8I r.fn] ++ put2 r.at_)),(1,oB false 1 enc8 [u8I r.fn]),(0,.obj [pI r.fn,pI r.at_,pI r.count,pI r.wAt,pI r.sub,pS 1 false encBo r.bits,pS 1 false enc16 r.vals,p16 r.and_,p16 r.or_])]) (congrArg (fun z => ([(3,oB false 1 enc8 z),(2,oB false 1 enc8 ([u8I r.fn] ++ put2 r.at_)),(1,oB false 1 enc8 [u8I r.fn]),(0,.obj [pI r.fn,pI r.at_,pI r.count,pI r.wAt,pI r.sub,pS 1 false encBo r.bits,pS 1 false enc16 r.vals,p16 r.and_,p16 r.or_])] : Heap)) (show ([u8I r.fn] ++ put2 r.at_) ++ put2 r.count = writeR r by first|(rw [writeR_1 (by omega)]; simp; done)|(rw [writeR_1 (by omega)]; done)|(rw [writeR_15 (by omega)]; simp; done)|(rw [writeR_16 (by omega)]; simp; done)|(rw [writeR_22 (by omega)]; simp; done)|(rw [writeR_23 (by omega)]; simp; done)|(rw [writeR_no (by omega)]; done)|(rw [writeR_5 (by omega) (by assumption)]; simp [*]; done)|(rw [writeR_6 (by omega) (by assumption)]; simp; done)|(rw [writeR_8 (by omega) (by assumption)]; simp; done))) ?_
  refine w_ret ?_
  refine q_block_ret ?_
  refine q_then_ret ?_
  exact fin_names (nx1 := 1) (H1 := [(0,oB false 1 enc8 (writeR r))]) [(0,3)] (ret_tmp rfl ret_nil) rfl (by decide) ⟨⟨_,_,rfl,rfl,rfl,rfl⟩,trivial⟩ (by decide) rfl ⟨rfl,rfl,rfl⟩
 ·
  have c1_ := c1
  try simp only [sB] at c1
  refine w_seq ?_
  refine w_R ?_
  refine qo hnt rfl (s_eql rfl rfl ?_)
  refine qa hnt rfl rfl ?_
  refine r_end ?_
  refine q_then ?_
  refine w_if rfl (fun c2 => ?_) (fun c2 => ?_)
  ·
   have c2_ := c2
   try simp only [sB] at c2
   refine w_skip ?_
   refine q_then ?_
   refine w_if rfl (fun _ => ?_) (fun e => absurd (e.symm.trans c2_) (by decide))
   refine w_seq ?_
   refine w_R ?_
   refine qm hnt rfl rfl ?_
   refine qo hnt rfl (s_fa_ptr tab_27 rfl rfl tab_3 (by decide) rfl ?_)
   refine qo hnt rfl (s_load_ptr1 tab_3 rfl rfl rfl rfl rfl ?_)
   refine qo hnt rfl (s_callX (r2 := PV.ref 3 0 none) (nx1 := 4) (H2 := [(2,oB false 1 enc8 ([u8I r.fn] ++ put2 r.at_)),(1,oB false 1 enc8 [u8I r.fn]),(0,.obj [pI r.fn,pI r.at_,pI r.count,pI r.wAt,pI r.sub,pS 1 false encBo r.bits,pS 1 false enc16 r.vals,p16 r.and_,p16 r.or_])]) (H3 := [(3,oB true 1 enc8 (([u8I r.fn] ++ put2 r.at_) ++ put2 r.count)),(2,oB false 1 enc8 ([u8I r.fn] ++ put2 r.at_)),(1,oB false 1 enc8 [u8I r.fn]),(0,.obj [pI r.fn,pI r.at_,pI r.count,pI r.wAt,pI r.sub,pS 1 false encBo r.bits,pS 1 false enc16 r.vals,p16 r.and_,p16 r.or_])]) [] [] rfl rfl rfl (handed_of (by decide) trivial) rfl rfl rfl rfl rfl rfl (w_burgageref1_Put ([u8I r.fn] ++ put2 r.at_) false r.count (by first|omega|assumption|(simp; omega)|decide|(simp; done))) rfl (dist_of rfl) rfl rfl rfl rfl ?_)
   refine qa hnt rfl rfl ?_
   refine r_set [(2,PV.ref 3 0 none)] [(3,oB true 1 enc8 (([u8I r.fn] ++ put2 r.at_) ++ put2 r.count)),(2,oB false 1 enc8 ([u8I r.fn] ++ put2 r.at_)),(1,oB false 1 enc8 [u8I r.fn]),(0,.obj [pI r.fn,pI r.at_,pI r.count,pI r.wAt,pI r.sub,pS 1 false encBo r.bits,pS 1 false enc16 r.vals,p16 r.and_,p16 r.or_])] 4 ⟨rfl,trivial⟩ rfl rfl ?_
   refine r_end ?_
   refine q_then ?_
   refine w_low (n := 3) rfl ?_
   refine w_H (H' := [(3,oB false 1 enc8 (writeR r)),(2,oB false 1 enc8 ([u8I r.fn] ++ put2 r.at_)),(1,oB false 1 enc8 [u8I r.fn]),(0,.obj [pI r.fn,pI r.at_,pI r.count,pI r.wAt,pI r.sub,pS 1 false encBo r.bits,pS 1 false enc16 r.vals,p16 r.and_,p16 r.or_])]) (congrArg (fun z => ([(3,oB false 1 enc8 z),(2,oB false 1 enc8 ([u8I r.fn] ++ put2 r.at_)),(1,oB false 1 enc8 [u8I r.fn]),(0,.obj [pI r.fn,pI r.at_,pI r.count,pI r.wAt,pI r.sub,pS 1 false encBo r.bits,pS 1 false enc16 r.vals,p16 r.and_,p16 r.or_])] : Heap)) (show ([u8I r.fn] ++ put2 r.at_) ++ put2 r.count = writeR r by first|(rw [writeR_1 (by omega)]; simp; done)|(rw [writeR_1 (by omega)]; done)|(rw [writeR_15 (by omega)]; simp; done)|(rw [writeR_16 (by omega)]; simp; done)|(rw [writeR_22 (by omega)]; simp; done)|(rw [writeR_23 (by omega)]; simp; done)|(rw [writeR_no (by omega)]; done)|(rw [writeR_5 (by omega) (by assumption)]; simp [*]; done)|(rw [writeR_6 (by omega) (by assumption)]; simp; done)|(rw [writeR_8 (by omega) (by assumption)]; simp; done))) ?_
   refine w_ret ?_
   refine q_block_ret ?_
   refine q_then_ret ?_
   exact fin_names (nx1 := 1) (H1 := [(0,oB false 1 enc8 (writeR r))]) [(0,3)] (ret_tmp rfl ret_nil) rfl (by decide) ⟨⟨_,_,rfl,rfl,rfl,rfl⟩,trivial⟩ (by decide) rfl ⟨rfl,rfl,rfl⟩
  ·
   have c2_ := c2
   try simp only [sB] at c2
   refine w_seq ?_
   refine w_R ?_
   refine qo hnt rfl (s_eql rfl rfl ?_)
   refine qa hnt rfl rfl ?_
   refine r_end ?_
   refine q_then ?_
   refine w_if rfl (fun c3 => ?_) (fun c3 => ?_)
   ·
    have c3_ := c3
    try simp only [sB] at c3
    refine w_skip ?_
    refine q_then ?_
    refine w_if rfl (fun _ => ?_) (fun e => absurd (e.symm.trans c3_) (by decide))
    refine w_seq ?_
    refine w_R ?_
    refine qm hnt rfl rfl ?_
    refine qo hnt rfl (s_fa_ptr tab_27 rfl rfl tab_3 (by decide) rfl ?_)
    refine qo hnt rfl (s_load_ptr1 tab_3 rfl rfl rfl rfl rfl ?_)
    refine qo hnt rfl (s_callX (r2 := PV.ref 3 0 none) (nx1 := 4) (H2 := [(2,oB false 1 enc8 ([u8I r.fn] ++ put2 r.at_)),(1,oB false 1 enc8 [u8I r.fn]),(0,.obj [pI r.fn,pI r.at_,pI r.count,pI r.wAt,pI r.sub,pS 1 false encBo r.bits,pS 1 false enc16 r.vals,p16 r.and_,p16 r.or_])]) (H3 := [(3,oB true 1 enc8 (([u8I r.fn] ++ put2 r.at_) ++ put2 r.count)),(2,oB false 1 enc8 ([u8I r.fn] ++ put2 r.at_)),(1,oB false 1 enc8 [u8I r.fn]),(0,.obj [pI r.fn,pI r.at_,pI r.count,pI r.wAt,pI r.sub,pS 1 false encBo r.bits,pS 1 false enc16 r.vals,p16 r.and_,p16 r.or_])]) [] [] rfl rfl rfl (handed_of (by decide) trivial) rfl rfl rfl rfl rfl rfl (w_burgageref1_Put ([u8I r.fn] ++ put2 r.at_) false r.count (by first|omega|assumption|(simp; omega)|decide|(simp; done))) rfl (dist_of rfl) rfl rfl rfl rfl ?_)
    refine qa hnt rfl rfl ?_
    refine r_set [(2,PV.ref 3 0 none)] [(3,oB true 1 enc8 (([u8I r.fn] ++ put2 r.at_) ++ put2 r.count)),(2,oB false 1 enc8 ([u8I r.fn] ++ put2 r.at_)),(1,oB false 1 enc8 [u8I r.fn]),(0,.obj [pI r.fn,pI r.at_,pI r.count,pI r.wAt,pI r.sub,pS 1 false encBo r.bits,pS 1 false enc16 r.vals,p16 r.and_,p16 r.or_])] 4 ⟨rfl,trivial⟩ rfl rfl ?_
    refine r_end ?_
    refine q_then ?_
    refine w_low (n := 3) rfl ?_
    refine w_H (H' := [(3,oB false 1 enc8 (writeR r)),(2,oB false 1 enc8 ([u8I r.fn] ++ put2 r.at_)),(1,oB false 1 enc8 [u8I r.fn]),(0,.obj [pI r.fn,pI r.at_,pI r.count,pI r.wAt,pI r.sub,pS 1 false encBo r.bits,pS 1 false enc16 r.vals,p16 r.and_,p16 r.or_])]) (congrArg (fun z => ([(3,oB false 1 enc8 z),(2,oB false 1 enc8 ([u8I r.fn] ++ put2 r.at_)),(1,oB false 1 enc8 [u8I r.fn]),(0,.obj [pI r.fn,pI r.at_,pI r.count,pI r.wAt,pI r.sub,pS 1 false encBo r.bits,pS 1 false enc16 r.vals,p16 r.and_,p16 r.or_])] : Heap)) (show ([u8I r.fn] ++ put2 r.at_) ++ put2 r.count = writeR r by first|(rw [writeR_1 (by omega)]; simp; done)|(rw [writeR_1 (by omega)]; done)|(rw [writeR_15 (by omega)]; simp; done)|(rw [writeR_16 (by omega)]; simp; done)|(rw [writeR_22 (by omega)]; simp; done)|(rw [writeR_23 (by omega)]; simp; done)|(rw [writeR_no (by omega)]; done)|(rw [writeR_5 (by omega) (by assumption)]; simp [*]; done)|(rw [writeR_6 (by omega) (by assumption)]; simp; done)|(rw [writeR_8 (by omega) (by assumption)]; simp; done))) ?_
    refine w_ret ?_
    refine q_block_ret ?_
    refine q_then_ret ?_
    exact fin_names (nx1 := 1) (H1 := [(0,oB false 1 enc8 (writeR r))]) [(0,3)] (ret_tmp rfl ret_nil) rfl (by decide) ⟨⟨_,_,rfl,rfl,rfl,rfl⟩,trivial⟩ (by decide) rfl ⟨rfl,rfl,rfl⟩
   ·
    have c3_ := c3
    try simp only [sB] at c3
    refine w_R ?_
    refine qo hnt rfl (s_eql rfl rfl ?_)
    refine qa hnt rfl rfl ?_
    refine r_end ?_
    refine q_then ?_
    refine w_if rfl (fun c4 => ?_) (fun c4 => ?_)
    ·
     have c4_ := c4
     try simp only [sB] at c4
     refine w_seq ?_
     refine w_R ?_
     refine qm hnt rfl rfl ?_
     refine qo hnt rfl (s_fa_ptr tab_27 rfl rfl tab_3 (by decide) rfl ?_)
     refine qo hnt rfl (s_load_ptr1 tab_3 rfl rfl rfl rfl rfl ?_)
     refine qo hnt rfl (s_callX (r2 := PV.ref 3 0 none) (nx1 := 4) (H2 := [(2,oB false 1 enc8 ([u8I r.fn] ++ put2 r.at_)),(1,oB false 1 enc8 [u8I r.fn]),(0,.obj [pI r.fn,pI r.at_,pI r.count,pI r.wAt,pI r.sub,pS 1 false encBo r.bits,pS 1 false enc16 r.vals,p16 r.and_,p16 r.or_])]) (H3 := [(3,oB true 1 enc8 (([u8I r.fn] ++ put2 r.at_) ++ put2 r.count)),(2,oB false 1 enc8 ([u8I r.fn] ++ put2 r.at_)),(1,oB false 1 enc8 [u8I r.fn]),(0,.obj [pI r.fn,pI r.at_,pI r.count,pI r.wAt,pI r.sub,pS 1 false encBo r.bits,pS 1 false enc16 r.vals,p16 r.and_,p16 r.or_])]) [] [] rfl rfl rfl (handed_of (by decide) trivial) rfl rfl rfl rfl rfl rfl (w_burgageref1_Put ([u8I r.fn] ++ put2 r.at_) false r.count (by first|omega|assumption|(simp; omega)|decide|(simp; done))) rfl (dist_of rfl) rfl rfl rfl rfl ?_)
     refine qa hnt rfl rfl ?_
     refine r_set [(2,PV.ref 3 0 none)] [(3,oB true 1 enc8 (([u8I r.fn] ++ put2 r.at_) ++ put2 r.count)),(2,oB false 1 enc8 ([u8I r.fn] ++ put2 r.at_)),(1,oB false 1 enc8 [u8I r.fn]),(0,.obj [pI r.fn,pI r.at_,pI r.count,pI r.wAt,pI r.sub,pS 1 false encBo r.bits,pS 1 false enc16 r.vals,p16 r.and_,p16 r.or_])] 4 ⟨rfl,trivial⟩ rfl rfl ?_
     refine r_end ?_
     refine q_then ?_
     refine w_low (n := 3) rfl ?_
     refine w_H (H' := [(3,oB false 1 enc8 (writeR r)),(2,oB false 1 enc8 ([u8I r.fn] ++ put2 r.at_)),(1,oB false 1 enc8 [u8I r.fn]),(0,.obj [pI r.fn,pI r.at_,pI r.count,pI r.wAt,pI r.sub,pS 1 false encBo r.bits,pS 1 false enc16 r.vals,p16 r.and_,p16 r.or_])]) (congrArg (fun z => ([(3,oB false 1 enc8 z),(2,oB false 1 enc8 ([u8I r.fn] ++ put2 r.at_)),(1,oB false 1 enc8 [u8I r.fn]),(0,.obj [pI r.fn,pI r.at_,pI r.count,pI r.wAt,pI r.sub,pS 1 false encBo r.bits,pS 1 false enc16 r.vals,p16 r.and_,p16 r.or_])] : Heap)) (show ([u8I r.fn] ++ put2 r.at_) ++ put2 r.count = writeR r by first|(rw [writeR_1 (by omega)]; simp; done)|(rw [writeR_1 (by omega)]; done)|(rw [writeR_15 (by omega)]; simp; done)|(rw [writeR_16 (by omega)]; simp; done)|(rw [writeR_22 (by omega)]; simp; done)|(rw [writeR_23 (by omega)]; simp; done)|(rw [writeR_no (by omega)]; done)|(rw [writeR_5 (by omega) (by assumption)]; simp [*]; done)|(rw [writeR_6 (by omega) (by assumption)]; simp; done)|(rw [writeR_8 (by omega) (by assumption)]; simp; done))) ?_
     refine w_ret ?_
     refine q_block_ret ?_
     refine q_then_ret ?_
     exact fin_names (nx1 := 1) (H1 := [(0,oB false 1 enc8 (writeR r))]) [(0,3)] (ret_tmp rfl ret_nil) rfl (by decide) ⟨⟨_,_,rfl,rfl,rfl,rfl⟩,trivial⟩ (by decide) rfl ⟨rfl,rfl,rfl⟩
    ·
     have c4_ := c4
     try simp only [sB] at c4
     refine w_seq ?_
     refine w_R ?_
     refine qo hnt rfl (s_eql rfl rfl ?_)
     refine qa hnt rfl rfl ?_
     refine r_end ?_
     refine q_then ?_
     refine w_if rfl (fun c5 => ?_) (fun c5 => ?_)
     ·
      have c5_ := c5
      try simp only [sB] at c5
      refine w_seq ?_
      refine w_seq ?_
      refine w_R ?_
      refine qo hnt rfl (s_fa_ptr tab_27 rfl rfl tab_23 (by decide) rfl ?_)
      refine qo hnt rfl (s_load_ptr1 tab_23 rfl rfl rfl rfl rfl ?_)
      obtain ⟨e1,he1⟩ := get_of_lt r.bits (i := 0) (by omega)
      refine qo hnt rfl (s_iaM (q := 0) (b := e1) (f := encBo) tab_23 rfl tab_4 rfl rfl (by omega) rfl he1 ?_)
      refine qo hnt rfl (s_load_ro1 tab_4 rfl rfl rfl rfl ?_)
      refine r_end ?_
      refine q_then ?_
      refine w_if rfl (fun c6 => ?_) (fun c6 => ?_)
      ·
       have c6_ := c6
       try simp only [sB] at c6
       refine w_seq ?_
       refine w_R ?_
       refine qm hnt rfl rfl ?_
       refine qo hnt rfl (s_callX (r2 := PV.ref 3 0 none) (nx1 := 4) (H2 := [(2,oB false 1 enc8 ([u8I r.fn] ++ put2 r.at_)),(1,oB false 1 enc8 [u8I r.fn]),(0,.obj [pI r.fn,pI r.at_,pI r.count,pI r.wAt,pI r.sub,pS 1 false encBo r.bits,pS 1 false enc16 r.vals,p16 r.and_,p16 r.or_])]) (H3 := [(3,oB true 1 enc8 (([u8I r.fn] ++ put2 r.at_) ++ put2 65280)),(2,oB false 1 enc8 ([u8I r.fn] ++ put2 r.at_)),(1,oB false 1 enc8 [u8I r.fn]),(0,.obj [pI r.fn,pI r.at_,pI r.count,pI r.wAt,pI r.sub,pS 1 false encBo r.bits,pS 1 false enc16 r.vals,p16 r.and_,p16 r.or_])]) [] [] rfl rfl rfl (handed_of (by decide) trivial) rfl rfl rfl rfl rfl rfl (w_burgageref1_Put ([u8I r.fn] ++ put2 r.at_) false 65280 (by first|omega|assumption|(simp; omega)|decide|(simp; done))) rfl (dist_of rfl) rfl rfl rfl rfl ?_)
       refine qa hnt rfl rfl ?_
       refine r_set [(2,PV.ref 3 0 none)] [(3,oB true 1 enc8 (([u8I r.fn] ++ put2 r.at_) ++ put2 65280)),(2,oB false 1 enc8 ([u8I r.fn] ++ put2 r.at_)),(1,oB false 1 enc8 [u8I r.fn]),(0,.obj [pI r.fn,pI r.at_,pI r.count,pI r.wAt,pI r.sub,pS 1 false encBo r.bits,pS 1 false enc16 r.vals,p16 r.and_,p16 r.or_])] 4 ⟨rfl,trivial⟩ rfl rfl ?_
       refine r_end ?_
       refine q_then ?_
       refine w_low (n := 3) rfl ?_
       refine w_H (H' := [(3,oB false 1 enc8 (writeR r)),(2,oB false 1 enc8 ([u8I r.fn] ++ put2 r.at_)),(1,oB false 1 enc8 [u8I r.fn]),(0,.obj [pI r.fn,pI r.at_,pI r.count,pI r.wAt,pI r.sub,pS 1 false encBo r.bits,pS 1 false enc16 r.vals,p16 r.and_,p16 r.or_])]) (congrArg (fun z => ([(3,oB false 1 enc8 z),(2,oB false 1 enc8 ([u8I r.fn] ++ put2 r.at_)),(1,oB false 1 enc8 [u8I r.fn]),(0,.obj [pI r.fn,pI r.at_,pI r.count,pI r.wAt,pI r.sub,pS 1 false encBo r.bits,pS 1 false enc16 r.vals,p16 r.and_,p16 r.or_])] : Heap)) (show ([u8I r.fn] ++ put2 r.at_) ++ put2 65280 = writeR r by first|(rw [writeR_1 (by omega)]; simp; done)|(rw [writeR_1 (by omega)]; done)|(rw [writeR_15 (by omega)]; simp; done)|(rw [writeR_16 (by omega)]; simp; done)|(rw [writeR_22 (by omega)]; simp; done)|(rw [writeR_23 (by omega)]; simp; done)|(rw [writeR_no (by omega)]; done)|(rw [writeR_5 (by omega) (by assumption)]; simp [*]; done)|(rw [writeR_6 (by omega) (by assumption)]; simp; done)|(rw [writeR_8 (by omega) (by assumption)]; simp; done))) ?_
       refine w_ret ?_
       refine q_then_ret ?_
       refine q_block_ret ?_
       refine q_then_ret ?_
       exact fin_names (nx1 := 1) (H1 := [(0,oB false 1 enc8 (writeR r))]) [(0,3)] (ret_tmp rfl ret_nil) rfl (by decide) ⟨⟨_,_,rfl,rfl,rfl,rfl⟩,trivial⟩ (by decide) rfl ⟨rfl,rfl,rfl⟩
      ·
       have c6_ := c6
       try simp only [sB] at c6
       refine w_skip ?_
       refine q_then ?_
       refine w_seq ?_
       refine w_R ?_
       refine qm hnt rfl rfl ?_
       refine qo hnt rfl (s_callX (r2 := PV.ref 3 0 none) (nx1 := 4) (H2 := [(2,oB false 1 enc8 ([u8I r.fn] ++ put2 r.at_)),(1,oB false 1 enc8 [u8I r.fn]),(0,.obj [pI r.fn,pI r.at_,pI r.count,pI r.wAt,pI r.sub,pS 1 false encBo r.bits,pS 1 false enc16 r.vals,p16 r.and_,p16 r.or_])]) (H3 := [(3,oB true 1 enc8 (([u8I r.fn] ++ put2 r.at_) ++ put2 0)),(2,oB false 1 enc8 ([u8I r.fn] ++ put2 r.at_)),(1,oB false 1 enc8 [u8I r.fn]),(0,.obj [pI r.fn,pI r.at_,pI r.count,pI r.wAt,pI r.sub,pS 1 false encBo r.bits,pS 1 false enc16 r.vals,p16 r.and_,p16 r.or_])]) [] [] rfl rfl rfl (handed_of (by decide) trivial) rfl rfl rfl rfl rfl rfl (w_burgageref1_Put ([u8I r.fn] ++ put2 r.at_) false 0 (by first|omega|assumption|(simp; omega)|decide|(simp; done))) rfl (dist_of rfl) rfl rfl rfl rfl ?_)
       refine qa hnt rfl rfl ?_
       refine r_set [(2,PV.ref 3 0 none)] [(3,oB true 1 enc8 (([u8I r.fn] ++ put2 r.at_) ++ put2 0)),(2,oB false 1 enc8 ([u8I r.fn] ++ put2 r.at_)),(1,oB false 1 enc8 [u8I r.fn]),(0,.obj [pI r.fn,pI r.at_,pI r.count,pI r.wAt,pI r.sub,pS 1 false encBo r.bits,pS 1 false enc16 r.vals,p16 r.and_,p16 r.or_])] 4 ⟨rfl,trivial⟩ rfl rfl ?_
       refine r_end ?_
       refine q_then ?_
       refine w_low (n := 3) rfl ?_
       refine w_H (H' := [(3,oB false 1 enc8 (writeR r)),(2,oB false 1 enc8 ([u8I r.fn] ++ put2 r.at_)),(1,oB false 1 enc8 [u8I r.fn]),(0,.obj [pI r.fn,pI r.at_,pI r.count,pI r.wAt,pI r.sub,pS 1 false encBo r.bits,pS 1 false enc16 r.vals,p16 r.and_,p16 r.or_])]) (congrArg (fun z => ([(3,oB false 1 enc8 z),(2,oB false 1 enc8 ([u8I r.fn] ++ put2 r.at_)),(1,oB false 1 enc8 [u8I r.fn]),(0,.obj [pI r.fn,pI r.at_,pI r.count,pI r.wAt,pI r.sub,pS 1 false encBo r.bits,pS 1 false enc16 r.vals,p16 r.and_,p16 r.or_])] : Heap)) (show ([u8I r.fn] ++ put2 r.at_) ++ put2 0 = writeR r by first|(rw [writeR_1 (by omega)]; simp; done)|(rw [writeR_1 (by omega)]; done)|(rw [writeR_15 (by omega)]; simp; done)|(rw [writeR_16 (by omega)]; simp; done)|(rw [writeR_22 (by omega)]; simp; done)|(rw [writeR_23 (by omega)]; simp; done)|(rw [writeR_no (by omega)]; done)|(rw [writeR_5 (by omega) (by assumption)]; simp [*]; done)|(rw [writeR_6 (by omega) (by assumption)]; simp; done)|(rw [writeR_8 (by omega) (by assumption)]; simp; done))) ?_
       refine w_ret ?_
       refine q_block_ret ?_
       refine q_then_ret ?_
       exact fin_names (nx1 := 1) (H1 := [(0,oB false 1 enc8 (writeR r))]) [(0,3)] (ret_tmp rfl ret_nil) rfl (by decide) ⟨⟨_,_,rfl,rfl,rfl,rfl⟩,trivial⟩ (by decide) rfl ⟨rfl,rfl,rfl⟩
     ·
      have c5_ := c5
      try simp only [sB] at c5
      refine w_seq ?_
      refine w_R ?_
      refine qo hnt rfl (s_eql rfl rfl ?_)
      refine qa hnt rfl rfl ?_
      refine r_end ?_
      refine q_then ?_
      refine w_if rfl (fun c7 => ?_) (fun c7 => ?_)
      ·
       have c7_ := c7
       try simp only [sB] at c7
       refine w_seq ?_
       refine w_R ?_
       refine qm hnt rfl rfl ?_
       refine qo hnt rfl (s_fa_ptr tab_27 rfl rfl tab_24 (by decide) rfl ?_)
       refine qo hnt rfl (s_load_ptr1 tab_24 rfl rfl rfl rfl rfl ?_)
       obtain ⟨e2,he2⟩ := get_of_lt r.vals (i := 0) (by omega)
       refine qo hnt rfl (s_iaM (q := 0) (b := e2) (f := enc16) tab_24 rfl tab_25 rfl rfl (by omega) rfl he2 ?_)
       refine qo hnt rfl (s_load_ro1 tab_25 rfl rfl rfl rfl ?_)
       refine qo hnt rfl (s_cvN (a := UInt16.toNat e2) tab_25 tab_3 rfl rfl rfl (by omega) (by have := lt16 e2; omega) ?_)
       refine qo hnt rfl (s_callX (r2 := PV.ref 3 0 none) (nx1 := 4) (H2 := [(2,oB false 1 enc8 ([u8I r.fn] ++ put2 r.at_)),(1,oB false 1 enc8 [u8I r.fn]),(0,.obj [pI r.fn,pI r.at_,pI r.count,pI r.wAt,pI r.sub,pS 1 false encBo r.bits,pS 1 false enc16 r.vals,p16 r.and_,p16 r.or_])]) (H3 := [(3,oB true 1 enc8 (([u8I r.fn] ++ put2 r.at_) ++ put2 ((UInt16.toNat e2 : Nat) : Int))),(2,oB false 1 enc8 ([u8I r.fn] ++ put2 r.at_)),(1,oB false 1 enc8 [u8I r.fn]),(0,.obj [pI r.fn,pI r.at_,pI r.count,pI r.wAt,pI r.sub,pS 1 false encBo r.bits,pS 1 false enc16 r.vals,p16 r.and_,p16 r.or_])]) [] [] rfl rfl rfl (handed_of (by decide) trivial) rfl rfl rfl rfl rfl rfl (w_burgageref1_Put ([u8I r.fn] ++ put2 r.at_) false ((UInt16.toNat e2 : Nat) : Int) (by first|omega|assumption|(simp; omega)|decide|(simp; done))) rfl (dist_of rfl) rfl rfl rfl rfl ?_)
       refine qa hnt rfl rfl ?_
       refine r_set [(2,PV.ref 3 0 none)] [(3,oB true 1 enc8 (([u8I r.fn] ++ put2 r.at_) ++ put2 ((UInt16.toNat e2 : Nat) : Int))),(2,oB false 1 enc8 ([u8I r.fn] ++ put2 r.at_)),(1,oB false 1 enc8 [u8I r.fn]),(0,.obj [pI r.fn,pI r.at_,pI r.count,pI r.wAt,pI r.sub,pS 1 false encBo r.bits,pS 1 false enc16 r.vals,p16 r.and_,p16 r.or_])] 4 ⟨rfl,trivial⟩ rfl rfl ?_
       refine r_end ?_
       refine q_then ?_
       refine w_low (n := 3) rfl ?_
       refine w_H (H' := [(3,oB false 1 enc8 (writeR r)),(2,oB false 1 enc8 ([u8I r.fn] ++ put2 r.at_)),(1,oB false 1 enc8 [u8I r.fn]),(0,.obj [pI r.fn,pI r.at_,pI r.count,pI r.wAt,pI r.sub,pS 1 false encBo r.bits,pS 1 false enc16 r.vals,p16 r.and_,p16 r.or_])]) (congrArg (fun z => ([(3,oB false 1 enc8 z),(2,oB false 1 enc8 ([u8I r.fn] ++ put2 r.at_)),(1,oB false 1 enc8 [u8I r.fn]),(0,.obj [pI r.fn,pI r.at_,pI r.count,pI r.wAt,pI r.sub,pS 1 false encBo r.bits,pS 1 false enc16 r.vals,p16 r.and_,p16 r.or_])] : Heap)) (show ([u8I r.fn] ++ put2 r.at_) ++ put2 ((UInt16.toNat e2 : Nat) : Int) = writeR r by first|(rw [writeR_1 (by omega)]; simp; done)|(rw [writeR_1 (by omega)]; done)|(rw [writeR_15 (by omega)]; simp; done)|(rw [writeR_16 (by omega)]; simp; done)|(rw [writeR_22 (by omega)]; simp; done)|(rw [writeR_23 (by omega)]; simp; done)|(rw [writeR_no (by omega)]; done)|(rw [writeR_5 (by omega) (by assumption)]; simp [*]; done)|(rw [writeR_6 (by omega) (by assumption)]; simp; done)|(rw [writeR_8 (by omega) (by assumption)]; simp; done))) ?_
       refine w_ret ?_
       refine q_block_ret ?_
       refine q_then_ret ?_
       exact fin_names (nx1 := 1) (H1 := [(0,oB false 1 enc8 (writeR r))]) [(0,3)] (ret_tmp rfl ret_nil) rfl (by decide) ⟨⟨_,_,rfl,rfl,rfl,rfl⟩,trivial⟩ (by decide) rfl ⟨rfl,rfl,rfl⟩
      ·
       have c7_ := c7
       try simp only [sB] at c7
       refine w_seq ?_
       refine w_R ?_
       refine qo hnt rfl (s_eql rfl rfl ?_)
       refine qa hnt rfl rfl ?_
       refine r_end ?_
       refine q_then ?_
       refine w_if rfl (fun c8 => ?_) (fun c8 => ?_)
       ·
        have c8_ := c8
        try simp only [sB] at c8
        refine w_seq ?_
        refine W_drawn tabOk mixed hnt [[],[],[1],[0,1,2],[],[4],[4,5],[4,5,6],[4,5,6,7],[0,1,2,3,4,5,6,7,8],[0,1,2,3,4,5,6,7,8,9]] (by kernel_rfl) ?_
        refine d_op ?_
        refine x_run0 [(3,PV.ref 1 0 none)] [] rfl rfl rfl rfl (s_move rfl ⟨rfl,rfl,rfl⟩) ?_
        refine d_op ?_
        refine x_run0 [(1,PV.ptr 0 0)] [] rfl rfl rfl rfl (s_fa_ptr tab_27 rfl rfl tab_3 (by decide) rfl ⟨rfl,rfl,rfl⟩) ?_
        refine d_op ?_
        refine x_run [(47,PV.ptr 0 4)] [1] [(0,.obj [pI r.fn,pI r.at_,pI r.count,pI r.wAt,pI r.sub,pS 1 false encBo r.bits,pS 1 false enc16 r.vals,p16 r.and_,p16 r.or_])] [] [(0,.obj [pI r.fn,pI r.at_,pI r.count,pI r.wAt,pI r.sub,pS 1 false encBo r.bits,pS 1 false enc16 r.vals,p16 r.and_,p16 r.or_])] [] [(2,oB true 1 enc8 ([u8I r.fn] ++ put2 r.at_)),(1,oB false 1 enc8 [u8I r.fn]),(0,.obj [pI r.fn,pI r.at_,pI r.count,pI r.wAt,pI r.sub,pS 1 false encBo r.bits,pS 1 false enc16 r.vals,p16 r.and_,p16 r.or_])] rfl rfl rfl rfl rfl rfl (s_load_ptr1 tab_3 rfl rfl rfl rfl rfl ⟨rfl,rfl,rfl⟩) rfl ⟨rfl,trivial⟩ rfl rfl ?_
        refine d_op ?_
        refine x_run [(46,PV.ref 1 0 none),(48,pI r.sub)] [0,1,2] [] [(1,oB false 1 enc8 [u8I r.fn])] [(3,oB true 1 enc8 ([u8I r.fn] ++ put2 r.sub)),(1,oB false 1 enc8 [u8I r.fn])] [(3,oB true 1 enc8 ([u8I r.fn] ++ put2 r.sub)),(1,oB false 1 enc8 [u8I r.fn])] [(3,oB true 1 enc8 ([u8I r.fn] ++ put2 r.sub)),(1,oB false 1 enc8 [u8I r.fn]),(2,oB true 1 enc8 ([u8I r.fn] ++ put2 r.at_)),(0,.obj [pI r.fn,pI r.at_,pI r.count,pI r.wAt,pI r.sub,pS 1 false encBo r.bits,pS 1 false enc16 r.vals,p16 r.and_,p16 r.or_])] rfl rfl rfl rfl rfl rfl (s_callX (r2 := PV.ref 3 0 none) (nx1 := 4) (H2 := [(1,oB false 1 enc8 [u8I r.fn])]) (H3 := [(3,oB true 1 enc8 ([u8I r.fn] ++ put2 r.sub)),(1,oB false 1 enc8 [u8I r.fn])]) [] [] rfl rfl rfl (handed_of (by decide) trivial) rfl rfl rfl rfl rfl rfl (w_burgageref1_Put [u8I r.fn] false r.sub (by first|omega|assumption|(simp; omega)|decide|(simp; done))) rfl (dist_of rfl) rfl rfl rfl rfl ⟨rfl,rfl,rfl⟩) rfl trivial rfl rfl ?_
        refine d_op ?_
        refine x_run0 [(1,PV.ptr 0 0)] [] rfl rfl rfl rfl (s_fa_ptr tab_27 rfl rfl tab_24 (by decide) rfl ⟨rfl,rfl,rfl⟩) ?_
        refine d_op ?_
        refine x_run [(50,PV.ptr 0 6)] [4] [(0,.obj [pI r.fn,pI r.at_,pI r.count,pI r.wAt,pI r.sub,pS 1 false encBo r.bits,pS 1 false enc16 r.vals,p16 r.and_,p16 r.or_])] [] [(0,.obj [pI r.fn,pI r.at_,pI r.count,pI r.wAt,pI r.sub,pS 1 false encBo r.bits,pS 1 false enc16 r.vals,p16 r.and_,p16 r.or_])] [] [(3,oB true 1 enc8 ([u8I r.fn] ++ put2 r.sub)),(1,oB false 1 enc8 [u8I r.fn]),(2,oB true 1 enc8 ([u8I r.fn] ++ put2 r.at_)),(0,.obj [pI r.fn,pI r.at_,pI r.count,pI r.wAt,pI r.sub,pS 1 false encBo r.bits,pS 1 false enc16 r.vals,p16 r.and_,p16 r.or_])] rfl rfl rfl rfl rfl rfl (s_load_ptr1 tab_24 rfl rfl rfl rfl rfl ⟨rfl,rfl,rfl⟩) rfl ⟨rfl,trivial⟩ rfl rfl ?_
        refine d_op ?_
        obtain ⟨e3,he3⟩ := get_of_lt r.vals (i := 0) (by omega)
        refine x_run0 [(51,pS 1 false enc16 r.vals)] [4,5] rfl rfl rfl rfl (s_iaM (q := 0) (b := e3) (f := enc16) tab_24 rfl tab_25 rfl rfl (by omega) rfl he3 ⟨rfl,rfl,rfl⟩) ?_
        refine d_op ?_
        refine x_run0 [(52,PV.f (.ro (enc16 e3)))] [4,5,6] rfl rfl rfl rfl (s_load_ro1 tab_25 rfl rfl rfl rfl ⟨rfl,rfl,rfl⟩) ?_
        refine d_op ?_
        refine x_run0 [(53,p16 e3)] [4,5,6,7] rfl rfl rfl rfl (s_cvN (a := UInt16.toNat e3) tab_25 tab_3 rfl rfl rfl (by omega) (by have := lt16 e3; omega) ⟨rfl,rfl,rfl⟩) ?_
        refine d_op ?_
        refine x_run [(49,PV.ref 3 0 none),(54,pN (UInt16.toNat e3))] [0,1,2,3,4,5,6,7,8] [] [(3,oB true 1 enc8 ([u8I r.fn] ++ put2 r.sub))] [(4,oB true 1 enc8 (([u8I r.fn] ++ put2 r.sub) ++ put2 ((UInt16.toNat e3 : Nat) : Int))),(3,oB false 1 enc8 ([u8I r.fn] ++ put2 r.sub))] [(4,oB true 1 enc8 (([u8I r.fn] ++ put2 r.sub) ++ put2 ((UInt16.toNat e3 : Nat) : Int))),(3,oB false 1 enc8 ([u8I r.fn] ++ put2 r.sub))] [(4,oB true 1 enc8 (([u8I r.fn] ++ put2 r.sub) ++ put2 ((UInt16.toNat e3 : Nat) : Int))),(3,oB false 1 enc8 ([u8I r.fn] ++ put2 r.sub)),(1,oB false 1 enc8 [u8I r.fn]),(2,oB true 1 enc8 ([u8I r.fn] ++ put2 r.at_)),(0,.obj [pI r.fn,pI r.at_,pI r.count,pI r.wAt,pI r.sub,pS 1 false encBo r.bits,pS 1 false enc16 r.vals,p16 r.and_,p16 r.or_])] rfl rfl rfl rfl rfl rfl (s_callX (r2 := PV.ref 4 0 none) (nx1 := 5) (H2 := [(3,oB false 1 enc8 ([u8I r.fn] ++ put2 r.sub))]) (H3 := [(4,oB true 1 enc8 (([u8I r.fn] ++ put2 r.sub) ++ put2 ((UInt16.toNat e3 : Nat) : Int))),(3,oB false 1 enc8 ([u8I r.fn] ++ put2 r.sub))]) [] [] rfl rfl rfl (handed_of (by decide) trivial) rfl rfl rfl rfl rfl rfl (w_burgageref1_Put ([u8I r.fn] ++ put2 r.sub) false ((UInt16.toNat e3 : Nat) : Int) (by first|omega|assumption|(simp; omega)|decide|(simp; done))) rfl (dist_of rfl) rfl rfl rfl rfl ⟨rfl,rfl,rfl⟩) rfl trivial rfl rfl ?_
        refine d_op ?_
        refine x_run0 [(55,PV.ref 4 0 none)] [0,1,2,3,4,5,6,7,8,9] rfl rfl rfl rfl (s_assign rfl ⟨rfl,rfl,rfl⟩) ?_
        refine d_end ⟨by kernel_rfl, ?_⟩
        refine q_then ?_
        refine w_low (n := 4) rfl ?_
        refine w_H (H' := [(4,oB false 1 enc8 (writeR r)),(3,oB false 1 enc8 ([u8I r.fn] ++ put2 r.sub)),(1,oB false 1 enc8 [u8I r.fn]),(2,oB true 1 enc8 ([u8I r.fn] ++ put2 r.at_)),(0,.obj [pI r.fn,pI r.at_,pI r.count,pI r.wAt,pI r.sub,pS 1 false encBo r.bits,pS 1 false enc16 r.vals,p16 r.and_,p16 r.or_])]) (congrArg (fun z => ([(4,oB false 1 enc8 z),(3,oB false 1 enc8 ([u8I r.fn] ++ put2 r.sub)),(1,oB false 1 enc8 [u8I r.fn]),(2,oB true 1 enc8 ([u8I r.fn] ++ put2 r.at_)),(0,.obj [pI r.fn,pI r.at_,pI r.count,pI r.wAt,pI r.sub,pS 1 false encBo r.bits,pS 1 false enc16 r.vals,p16 r.and_,p16 r.or_])] : Heap)) (show ([u8I r.fn] ++ put2 r.sub) ++ put2 ((UInt16.toNat e3 : Nat) : Int) = writeR r by first|(rw [writeR_1 (by omega)]; simp; done)|(rw [writeR_1 (by omega)]; done)|(rw [writeR_15 (by omega)]; simp; done)|(rw [writeR_16 (by omega)]; simp; done)|(rw [writeR_22 (by omega)]; simp; done)|(rw [writeR_23 (by omega)]; simp; done)|(rw [writeR_no (by omega)]; done)|(rw [writeR_5 (by omega) (by assumption)]; simp [*]; done)|(rw [writeR_6 (by omega) (by assumption)]; simp; done)|(rw [writeR_8 (by omega) (by assumption)]; simp; done))) ?_
        refine w_ret ?_
        refine q_block_ret ?_
        refine q_then_ret ?_
        exact fin_names (nx1 := 1) (H1 := [(0,oB false 1 enc8 (writeR r))]) [(0,4)] (ret_tmp rfl ret_nil) rfl (by decide) ⟨⟨_,_,rfl,rfl,rfl,rfl⟩,trivial⟩ (by decide) rfl ⟨rfl,rfl,rfl⟩
       ·
        have c8_ := c8
        try simp only [sB] at c8
        refine w_seq ?_
        refine w_R ?_
        refine qo hnt rfl (s_eql rfl rfl ?_)
        refine qa hnt rfl rfl ?_
        refine r_end ?_
        refine q_then ?_
        refine w_if rfl (fun c9 => ?_) (fun c9 => ?_)
        ·
         have c9_ := c9
         try simp only [sB] at c9
         refine w_seq ?_
         refine W_drawn tabOk mixed hnt [[],[],[1],[0,1,2],[],[4],[0,1,2,3,4,5],[0,1,2,3,4,5,6],[0,1,2,3,4,5,6,7]] (by kernel_rfl) ?_
         refine d_op ?_
         refine x_run0 [(4,PV.ref 2 0 none)] [] rfl rfl rfl rfl (s_move rfl ⟨rfl,rfl,rfl⟩) ?_
         refine d_op ?_
         refine x_run0 [(1,PV.ptr 0 0)] [] rfl rfl rfl rfl (s_fa_ptr tab_27 rfl rfl tab_3 (by decide) rfl ⟨rfl,rfl,rfl⟩) ?_
         refine d_op ?_
         refine x_run [(59,PV.ptr 0 2)] [1] [(0,.obj [pI r.fn,pI r.at_,pI r.count,pI r.wAt,pI r.sub,pS 1 false encBo r.bits,pS 1 false enc16 r.vals,p16 r.and_,p16 r.or_])] [] [(0,.obj [pI r.fn,pI r.at_,pI r.count,pI r.wAt,pI r.sub,pS 1 false encBo r.bits,pS 1 false enc16 r.vals,p16 r.and_,p16 r.or_])] [] [(2,oB true 1 enc8 ([u8I r.fn] ++ put2 r.at_)),(1,oB false 1 enc8 [u8I r.fn]),(0,.obj [pI r.fn,pI r.at_,pI r.count,pI r.wAt,pI r.sub,pS 1 false encBo r.bits,pS 1 false enc16 r.vals,p16 r.and_,p16 r.or_])] rfl rfl rfl rfl rfl rfl (s_load_ptr1 tab_3 rfl rfl rfl rfl rfl ⟨rfl,rfl,rfl⟩) rfl ⟨rfl,trivial⟩ rfl rfl ?_
         refine d_op ?_
         refine x_run [(58,PV.ref 2 0 none),(60,pI r.count)] [0,1,2] [] [(2,oB true 1 enc8 ([u8I r.fn] ++ put2 r.at_))] [(3,oB true 1 enc8 (([u8I r.fn] ++ put2 r.at_) ++ put2 r.count)),(2,oB false 1 enc8 ([u8I r.fn] ++ put2 r.at_))] [(3,oB true 1 enc8 (([u8I r.fn] ++ put2 r.at_) ++ put2 r.count)),(2,oB false 1 enc8 ([u8I r.fn] ++ put2 r.at_))] [(3,oB true 1 enc8 (([u8I r.fn] ++ put2 r.at_) ++ put2 r.count)),(2,oB false 1 enc8 ([u8I r.fn] ++ put2 r.at_)),(1,oB false 1 enc8 [u8I r.fn]),(0,.obj [pI r.fn,pI r.at_,pI r.count,pI r.wAt,pI r.sub,pS 1 false encBo r.bits,pS 1 false enc16 r.vals,p16 r.and_,p16 r.or_])] rfl rfl rfl rfl rfl rfl (s_callX (r2 := PV.ref 3 0 none) (nx1 := 4) (H2 := [(2,oB false 1 enc8 ([u8I r.fn] ++ put2 r.at_))]) (H3 := [(3,oB true 1 enc8 (([u8I r.fn] ++ put2 r.at_) ++ put2 r.count)),(2,oB false 1 enc8 ([u8I r.fn] ++ put2 r.at_))]) [] [] rfl rfl rfl (handed_of (by decide) trivial) rfl rfl rfl rfl rfl rfl (w_burgageref1_Put ([u8I r.fn] ++ put2 r.at_) false r.count (by first|omega|assumption|(simp; omega)|decide|(simp; done))) rfl (dist_of rfl) rfl rfl rfl rfl ⟨rfl,rfl,rfl⟩) rfl trivial rfl rfl ?_
         refine d_op ?_
         refine x_run0 [(1,PV.ptr 0 0)] [] rfl rfl rfl rfl (s_fa_ptr tab_27 rfl rfl tab_23 (by decide) rfl ⟨rfl,rfl,rfl⟩) ?_
         refine d_op ?_
         refine x_run [(62,PV.ptr 0 5)] [4] [(0,.obj [pI r.fn,pI r.at_,pI r.count,pI r.wAt,pI r.sub,pS 1 false encBo r.bits,pS 1 false enc16 r.vals,p16 r.and_,p16 r.or_])] [] [(0,.obj [pI r.fn,pI r.at_,pI r.count,pI r.wAt,pI r.sub,pS 1 false encBo r.bits,pS 1 false enc16 r.vals,p16 r.and_,p16 r.or_])] [] [(3,oB true 1 enc8 (([u8I r.fn] ++ put2 r.at_) ++ put2 r.count)),(2,oB false 1 enc8 ([u8I r.fn] ++ put2 r.at_)),(1,oB false 1 enc8 [u8I r.fn]),(0,.obj [pI r.fn,pI r.at_,pI r.count,pI r.wAt,pI r.sub,pS 1 false encBo r.bits,pS 1 false enc16 r.vals,p16 r.and_,p16 r.or_])] rfl rfl rfl rfl rfl rfl (s_load_ptr1 tab_23 rfl rfl rfl rfl rfl ⟨rfl,rfl,rfl⟩) rfl ⟨rfl,trivial⟩ rfl rfl ?_
         refine d_op ?_
         refine x_run [(63,pS 1 false encBo r.bits)] [0,1,2,3,4,5] [] [] [(4,oB true 1 enc8 (packL r.bits))] [(4,oB true 1 enc8 (packL r.bits))] [(4,oB true 1 enc8 (packL r.bits)),(3,oB true 1 enc8 (([u8I r.fn] ++ put2 r.at_) ++ put2 r.count)),(2,oB false 1 enc8 ([u8I r.fn] ++ put2 r.at_)),(1,oB false 1 enc8 [u8I r.fn]),(0,.obj [pI r.fn,pI r.at_,pI r.count,pI r.wAt,pI r.sub,pS 1 false encBo r.bits,pS 1 false enc16 r.vals,p16 r.and_,p16 r.or_])] rfl rfl rfl rfl rfl rfl (s_callX (r2 := PV.ref 4 0 none) (nx1 := 5) (H2 := []) (H3 := [(4,oB true 1 enc8 (packL r.bits))]) [] [] rfl rfl rfl (handed_of (by decide) trivial) rfl rfl rfl rfl rfl rfl (w_burgageref1_Pack r.bits false (by first|omega|assumption|(simp; omega)|decide|(simp; done))) rfl (dist_of rfl) rfl rfl rfl rfl ⟨rfl,rfl,rfl⟩) rfl trivial rfl rfl ?_
         refine d_op ?_
         refine x_run [(61,PV.ref 3 0 none),(64,PV.ref 4 0 none)] [0,1,2,3,4,5,6] [] [(3,oB true 1 enc8 (([u8I r.fn] ++ put2 r.at_) ++ put2 r.count)),(4,oB true 1 enc8 (packL r.bits))] [(5,oB true 1 enc8 ((([u8I r.fn] ++ put2 r.at_) ++ put2 r.count) ++ rowX (packL r.bits))),(4,oB false 1 enc8 (packL r.bits))] [(5,oB true 1 enc8 ((([u8I r.fn] ++ put2 r.at_) ++ put2 r.count) ++ rowX (packL r.bits))),(4,oB false 1 enc8 (packL r.bits))] [(5,oB true 1 enc8 ((([u8I r.fn] ++ put2 r.at_) ++ put2 r.count) ++ rowX (packL r.bits))),(4,oB false 1 enc8 (packL r.bits)),(2,oB false 1 enc8 ([u8I r.fn] ++ put2 r.at_)),(1,oB false 1 enc8 [u8I r.fn]),(0,.obj [pI r.fn,pI r.at_,pI r.count,pI r.wAt,pI r.sub,pS 1 false encBo r.bits,pS 1 false enc16 r.vals,p16 r.and_,p16 r.or_])] rfl rfl rfl rfl rfl rfl (s_callX (r2 := PV.ref 5 0 none) (nx1 := 6) (H2 := [(4,oB false 1 enc8 (packL r.bits)),(3,oB true 1 enc8 (([u8I r.fn] ++ put2 r.at_) ++ put2 r.count))]) (H3 := [(5,oB true 1 enc8 ((([u8I r.fn] ++ put2 r.at_) ++ put2 r.count) ++ rowX (packL r.bits))),(4,oB false 1 enc8 (packL r.bits))]) [3] [oB true 1 enc8 (([u8I r.fn] ++ put2 r.at_) ++ put2 r.count)] rfl rfl rfl (handed_of (by decide) ⟨rfl,trivial⟩) rfl rfl rfl rfl rfl rfl (w_burgageref3_row (([u8I r.fn] ++ put2 r.at_) ++ put2 r.count) true (packL r.bits) false (by first|omega|assumption|(simp; omega)|decide|(simp; done)) (by first|omega|assumption|(simp; omega)|decide|(simp; done))) rfl (dist_of rfl) rfl rfl rfl rfl ⟨rfl,rfl,rfl⟩) rfl trivial rfl rfl ?_
         refine d_op ?_
         refine x_run0 [(65,PV.ref 5 0 none)] [0,1,2,3,4,5,6,7] rfl rfl rfl rfl (s_assign rfl ⟨rfl,rfl,rfl⟩) ?_
         refine d_end ⟨by kernel_rfl, ?_⟩
         refine q_then ?_
         refine w_low (n := 5) rfl ?_
         refine w_H (H' := [(5,oB false 1 enc8 (writeR r)),(4,oB false 1 enc8 (packL r.bits)),(2,oB false 1 enc8 ([u8I r.fn] ++ put2 r.at_)),(1,oB false 1 enc8 [u8I r.fn]),(0,.obj [pI r.fn,pI r.at_,pI r.count,pI r.wAt,pI r.sub,pS 1 false encBo r.bits,pS 1 false enc16 r.vals,p16 r.and_,p16 r.or_])]) (congrArg (fun z => ([(5,oB false 1 enc8 z),(4,oB false 1 enc8 (packL r.bits)),(2,oB false 1 enc8 ([u8I r.fn] ++ put2 r.at_)),(1,oB false 1 enc8 [u8I r.fn]),(0,.obj [pI r.fn,pI r.at_,pI r.count,pI r.wAt,pI r.sub,pS 1 false encBo r.bits,pS 1 false enc16 r.vals,p16 r.and_,p16 r.or_])] : Heap)) (show (([u8I r.fn] ++ put2 r.at_) ++ put2 r.count) ++ rowX (packL r.bits) = writeR r by first|(rw [writeR_1 (by omega)]; simp; done)|(rw [writeR_1 (by omega)]; done)|(rw [writeR_15 (by omega)]; simp; done)|(rw [writeR_16 (by omega)]; simp; done)|(rw [writeR_22 (by omega)]; simp; done)|(rw [writeR_23 (by omega)]; simp; done)|(rw [writeR_no (by omega)]; done)|(rw [writeR_5 (by omega) (by assumption)]; simp [*]; done)|(rw [writeR_6 (by omega) (by assumption)]; simp; done)|(rw [writeR_8 (by omega) (by assumption)]; simp; done))) ?_
         refine w_ret ?_
         refine q_block_ret ?_
         refine q_then_ret ?_
         exact fin_names (nx1 := 1) (H1 := [(0,oB false 1 enc8 (writeR r))]) [(0,5)] (ret_tmp rfl ret_nil) rfl (by decide) ⟨⟨_,_,rfl,rfl,rfl,rfl⟩,trivial⟩ (by decide) rfl ⟨rfl,rfl,rfl⟩
        ·
         have c9_ := c9
         try simp only [sB] at c9
         refine w_seq ?_
         refine w_R ?_
         refine qo hnt rfl (s_eql rfl rfl ?_)
         refine qa hnt rfl rfl ?_
         refine r_end ?_
         refine q_then ?_
         refine w_if rfl (fun c10 => ?_) (fun c10 => ?_)
         ·
          have c10_ := c10
          try simp only [sB] at c10
          refine w_seq ?_
          refine W_drawn tabOk mixed hnt [[],[],[1],[0,1,2],[],[4],[0,1,2,3,4,5],[0,1,2,3,4,5,6],[0,1,2,3,4,5,6,7]] (by kernel_rfl) ?_
          refine d_op ?_
          refine x_run0 [(4,PV.ref 2 0 none)] [] rfl rfl rfl rfl (s_move rfl ⟨rfl,rfl,rfl⟩) ?_
          refine d_op ?_
          refine x_run0 [(1,PV.ptr 0 0)] [] rfl rfl rfl rfl (s_fa_ptr tab_27 rfl rfl tab_3 (by decide) rfl ⟨rfl,rfl,rfl⟩) ?_
          refine d_op ?_
          refine x_run [(69,PV.ptr 0 2)] [1] [(0,.obj [pI r.fn,pI r.at_,pI r.count,pI r.wAt,pI r.sub,pS 1 false encBo r.bits,pS 1 false enc16 r.vals,p16 r.and_,p16 r.or_])] [] [(0,.obj [pI r.fn,pI r.at_,pI r.count,pI r.wAt,pI r.sub,pS 1 false encBo r.bits,pS 1 false enc16 r.vals,p16 r.and_,p16 r.or_])] [] [(2,oB true 1 enc8 ([u8I r.fn] ++ put2 r.at_)),(1,oB false 1 enc8 [u8I r.fn]),(0,.obj [pI r.fn,pI r.at_,pI r.count,pI r.wAt,pI r.sub,pS 1 false encBo r.bits,pS 1 false enc16 r.vals,p16 r.and_,p16 r.or_])] rfl rfl rfl rfl rfl rfl (s_load_ptr1 tab_3 rfl rfl rfl rfl rfl ⟨rfl,rfl,rfl⟩) rfl ⟨rfl,trivial⟩ rfl rfl ?_
          refine d_op ?_
          refine x_run [(68,PV.ref 2 0 none),(70,pI r.count)] [0,1,2] [] [(2,oB true 1 enc8 ([u8I r.fn] ++ put2 r.at_))] [(3,oB true 1 enc8 (([u8I r.fn] ++ put2 r.at_) ++ put2 r.count)),(2,oB false 1 enc8 ([u8I r.fn] ++ put2 r.at_))] [(3,oB true 1 enc8 (([u8I r.fn] ++ put2 r.at_) ++ put2 r.count)),(2,oB false 1 enc8 ([u8I r.fn] ++ put2 r.at_))] [(3,oB true 1 enc8 (([u8I r.fn] ++ put2 r.at_) ++ put2 r.count)),(2,oB false 1 enc8 ([u8I r.fn] ++ put2 r.at_)),(1,oB false 1 enc8 [u8I r.fn]),(0,.obj [pI r.fn,pI r.at_,pI r.count,pI r.wAt,pI r.sub,pS 1 false encBo r.bits,pS 1 false enc16 r.vals,p16 r.and_,p16 r.or_])] rfl rfl rfl rfl rfl rfl (s_callX (r2 := PV.ref 3 0 none) (nx1 := 4) (H2 := [(2,oB false 1 enc8 ([u8I r.fn] ++ put2 r.at_))]) (H3 := [(3,oB true 1 enc8 (([u8I r.fn] ++ put2 r.at_) ++ put2 r.count)),(2,oB false 1 enc8 ([u8I r.fn] ++ put2 r.at_))]) [] [] rfl rfl rfl (handed_of (by decide) trivial) rfl rfl rfl rfl rfl rfl (w_burgageref1_Put ([u8I r.fn] ++ put2 r.at_) false r.count (by first|omega|assumption|(simp; omega)|decide|(simp; done))) rfl (dist_of rfl) rfl rfl rfl rfl ⟨rfl,rfl,rfl⟩) rfl trivial rfl rfl ?_
          refine d_op ?_
          refine x_run0 [(1,PV.ptr 0 0)] [] rfl rfl rfl rfl (s_fa_ptr tab_27 rfl rfl tab_24 (by decide) rfl ⟨rfl,rfl,rfl⟩) ?_
          refine d_op ?_
          refine x_run [(72,PV.ptr 0 6)] [4] [(0,.obj [pI r.fn,pI r.at_,pI r.count,pI r.wAt,pI r.sub,pS 1 false encBo r.bits,pS 1 false enc16 r.vals,p16 r.and_,p16 r.or_])] [] [(0,.obj [pI r.fn,pI r.at_,pI r.count,pI r.wAt,pI r.sub,pS 1 false encBo r.bits,pS 1 false enc16 r.vals,p16 r.and_,p16 r.or_])] [] [(3,oB true 1 enc8 (([u8I r.fn] ++ put2 r.at_) ++ put2 r.count)),(2,oB false 1 enc8 ([u8I r.fn] ++ put2 r.at_)),(1,oB false 1 enc8 [u8I r.fn]),(0,.obj [pI r.fn,pI r.at_,pI r.count,pI r.wAt,pI r.sub,pS 1 false encBo r.bits,pS 1 false enc16 r.vals,p16 r.and_,p16 r.or_])] rfl rfl rfl rfl rfl rfl (s_load_ptr1 tab_24 rfl rfl rfl rfl rfl ⟨rfl,rfl,rfl⟩) rfl ⟨rfl,trivial⟩ rfl rfl ?_
          refine d_op ?_
          refine x_run [(73,pS 1 false enc16 r.vals)] [0,1,2,3,4,5] [] [] [(4,oB true 1 enc8 (bytesL r.vals))] [(4,oB true 1 enc8 (bytesL r.vals))] [(4,oB true 1 enc8 (bytesL r.vals)),(3,oB true 1 enc8 (([u8I r.fn] ++ put2 r.at_) ++ put2 r.count)),(2,oB false 1 enc8 ([u8I r.fn] ++ put2 r.at_)),(1,oB false 1 enc8 [u8I r.fn]),(0,.obj [pI r.fn,pI r.at_,pI r.count,pI r.wAt,pI r.sub,pS 1 false encBo r.bits,pS 1 false enc16 r.vals,p16 r.and_,p16 r.or_])] rfl rfl rfl rfl rfl rfl (s_callX (r2 := PV.ref 4 0 none) (nx1 := 5) (H2 := []) (H3 := [(4,oB true 1 enc8 (bytesL r.vals))]) [] [] rfl rfl rfl (handed_of (by decide) trivial) rfl rfl rfl rfl rfl rfl (w_burgageref1_Bytes r.vals false (by first|omega|assumption|(simp; omega)|decide|(simp; done))) rfl (dist_of rfl) rfl rfl rfl rfl ⟨rfl,rfl,rfl⟩) rfl trivial rfl rfl ?_
          refine d_op ?_
          refine x_run [(71,PV.ref 3 0 none),(74,PV.ref 4 0 none)] [0,1,2,3,4,5,6] [] [(3,oB true 1 enc8 (([u8I r.fn] ++ put2 r.at_) ++ put2 r.count)),(4,oB true 1 enc8 (bytesL r.vals))] [(5,oB true 1 enc8 ((([u8I r.fn] ++ put2 r.at_) ++ put2 r.count) ++ rowX (bytesL r.vals))),(4,oB false 1 enc8 (bytesL r.vals))] [(5,oB true 1 enc8 ((([u8I r.fn] ++ put2 r.at_) ++ put2 r.count) ++ rowX (bytesL r.vals))),(4,oB false 1 enc8 (bytesL r.vals))] [(5,oB true 1 enc8 ((([u8I r.fn] ++ put2 r.at_) ++ put2 r.count) ++ rowX (bytesL r.vals))),(4,oB false 1 enc8 (bytesL r.vals)),(2,oB false 1 enc8 ([u8I r.fn] ++ put2 r.at_)),(1,oB false 1 enc8 [u8I r.fn]),(0,.obj [pI r.fn,pI r.at_,pI r.count,pI r.wAt,pI r.sub,pS 1 false encBo r.bits,pS 1 false enc16 r.vals,p16 r.and_,p16 r.or_])] rfl rfl rfl rfl rfl rfl (s_callX (r2 := PV.ref 5 0 none) (nx1 := 6) (H2 := [(4,oB false 1 enc8 (bytesL r.vals)),(3,oB true 1 enc8 (([u8I r.fn] ++ put2 r.at_) ++ put2 r.count))]) (H3 := [(5,oB true 1 enc8 ((([u8I r.fn] ++ put2 r.at_) ++ put2 r.count) ++ rowX (bytesL r.vals))),(4,oB false 1 enc8 (bytesL r.vals))]) [3] [oB true 1 enc8 (([u8I r.fn] ++ put2 r.at_) ++ put2 r.count)] rfl rfl rfl (handed_of (by decide) ⟨rfl,trivial⟩) rfl rfl rfl rfl rfl rfl (w_burgageref3_row (([u8I r.fn] ++ put2 r.at_) ++ put2 r.count) true (bytesL r.vals) false (by first|omega|assumption|(simp; omega)|decide|(simp; done)) (by first|omega|assumption|(simp; omega)|decide|(simp; done))) rfl (dist_of rfl) rfl rfl rfl rfl ⟨rfl,rfl,rfl⟩) rfl trivial rfl rfl ?_
          refine d_op ?_
          refine x_run0 [(75,PV.ref 5 0 none)] [0,1,2,3,4,5,6,7] rfl rfl rfl rfl (s_assign rfl ⟨rfl,rfl,rfl⟩) ?_
          refine d_end ⟨by kernel_rfl, ?_⟩
          refine q_then ?_
          refine w_low (n := 5) rfl ?_
          refine w_H (H' := [(5,oB false 1 enc8 (writeR r)),(4,oB false 1 enc8 (bytesL r.vals)),(2,oB false 1 enc8 ([u8I r.fn] ++ put2 r.at_)),(1,oB false 1 enc8 [u8I r.fn]),(0,.obj [pI r.fn,pI r.at_,pI r.count,pI r.wAt,pI r.sub,pS 1 false encBo r.bits,pS 1 false enc16 r.vals,p16 r.and_,p16 r.or_])]) (congrArg (fun z => ([(5,oB false 1 enc8 z),(4,oB false 1 enc8 (bytesL r.vals)),(2,oB false 1 enc8 ([u8I r.fn] ++ put2 r.at_)),(1,oB false 1 enc8 [u8I r.fn]),(0,.obj [pI r.fn,pI r.at_,pI r.count,pI r.wAt,pI r.sub,pS 1 false encBo r.bits,pS 1 false enc16 r.vals,p16 r.and_,p16 r.or_])] : Heap)) (show (([u8I r.fn] ++ put2 r.at_) ++ put2 r.count) ++ rowX (bytesL r.vals) = writeR r by first|(rw [writeR_1 (by omega)]; simp; done)|(rw [writeR_1 (by omega)]; done)|(rw [writeR_15 (by omega)]; simp; done)|(rw [writeR_16 (by omega)]; simp; done)|(rw [writeR_22 (by omega)]; simp; done)|(rw [writeR_23 (by omega)]; simp; done)|(rw [writeR_no (by omega)]; done)|(rw [writeR_5 (by omega) (by assumption)]; simp [*]; done)|(rw [writeR_6 (by omega) (by assumption)]; simp; done)|(rw [writeR_8 (by omega) (by assumption)]; simp; done))) ?_
          refine w_ret ?_
          refine q_block_ret ?_
          refine q_then_ret ?_
          exact fin_names (nx1 := 1) (H1 := [(0,oB false 1 enc8 (writeR r))]) [(0,5)] (ret_tmp rfl ret_nil) rfl (by decide) ⟨⟨_,_,rfl,rfl,rfl,rfl⟩,trivial⟩ (by decide) rfl ⟨rfl,rfl,rfl⟩
         ·
          have c10_ := c10
          try simp only [sB] at c10
          refine w_seq ?_
          refine w_R ?_
          refine qo hnt rfl (s_eql rfl rfl ?_)
          refine qa hnt rfl rfl ?_
          refine r_end ?_
          refine q_then ?_
          refine w_if rfl (fun c11 => ?_) (fun c11 => ?_)
          ·
           have c11_ := c11
           try simp only [sB] at c11
           refine w_seq ?_
           refine W_drawn tabOk mixed hnt [[],[],[1],[1,2],[0,1,2,3],[],[5],[5,6],[0,1,2,3,4,5,6,7],[0,1,2,3,4,5,6,7,8]] (by kernel_rfl) ?_
           refine d_op ?_
           refine x_run0 [(4,PV.ref 2 0 none)] [] rfl rfl rfl rfl (s_move rfl ⟨rfl,rfl,rfl⟩) ?_
           refine d_op ?_
           refine x_run0 [(1,PV.ptr 0 0)] [] rfl rfl rfl rfl (s_fa_ptr tab_27 rfl rfl tab_25 (by decide) rfl ⟨rfl,rfl,rfl⟩) ?_
           refine d_op ?_
           refine x_run [(79,PV.ptr 0 7)] [1] [(0,.obj [pI r.fn,pI r.at_,pI r.count,pI r.wAt,pI r.sub,pS 1 false encBo r.bits,pS 1 false enc16 r.vals,p16 r.and_,p16 r.or_])] [] [(0,.obj [pI r.fn,pI r.at_,pI r.count,pI r.wAt,pI r.sub,pS 1 false encBo r.bits,pS 1 false enc16 r.vals,p16 r.and_,p16 r.or_])] [] [(2,oB true 1 enc8 ([u8I r.fn] ++ put2 r.at_)),(1,oB false 1 enc8 [u8I r.fn]),(0,.obj [pI r.fn,pI r.at_,pI r.count,pI r.wAt,pI r.sub,pS 1 false encBo r.bits,pS 1 false enc16 r.vals,p16 r.and_,p16 r.or_])] rfl rfl rfl rfl rfl rfl (s_load_ptr1 tab_25 rfl rfl rfl rfl rfl ⟨rfl,rfl,rfl⟩) rfl ⟨rfl,trivial⟩ rfl rfl ?_
           refine d_op ?_
           refine x_run0 [(80,p16 r.and_)] [1,2] rfl rfl rfl rfl (s_cvN (a := UInt16.toNat r.and_) tab_25 tab_3 rfl rfl rfl (by omega) (by have := lt16 r.and_; omega) ⟨rfl,rfl,rfl⟩) ?_
           refine d_op ?_
           refine x_run [(78,PV.ref 2 0 none),(81,pN (UInt16.toNat r.and_))] [0,1,2,3] [] [(2,oB true 1 enc8 ([u8I r.fn] ++ put2 r.at_))] [(3,oB true 1 enc8 (([u8I r.fn] ++ put2 r.at_) ++ put2 ((UInt16.toNat r.and_ : Nat) : Int))),(2,oB false 1 enc8 ([u8I r.fn] ++ put2 r.at_))] [(3,oB true 1 enc8 (([u8I r.fn] ++ put2 r.at_) ++ put2 ((UInt16.toNat r.and_ : Nat) : Int))),(2,oB false 1 enc8 ([u8I r.fn] ++ put2 r.at_))] [(3,oB true 1 enc8 (([u8I r.fn] ++ put2 r.at_) ++ put2 ((UInt16.toNat r.and_ : Nat) : Int))),(2,oB false 1 enc8 ([u8I r.fn] ++ put2 r.at_)),(1,oB false 1 enc8 [u8I r.fn]),(0,.obj [pI r.fn,pI r.at_,pI r.count,pI r.wAt,pI r.sub,pS 1 false encBo r.bits,pS 1 false enc16 r.vals,p16 r.and_,p16 r.or_])] rfl rfl rfl rfl rfl rfl (s_callX (r2 := PV.ref 3 0 none) (nx1 := 4) (H2 := [(2,oB false 1 enc8 ([u8I r.fn] ++ put2 r.at_))]) (H3 := [(3,oB true 1 enc8 (([u8I r.fn] ++ put2 r.at_) ++ put2 ((UInt16.toNat r.and_ : Nat) : Int))),(2,oB false 1 enc8 ([u8I r.fn] ++ put2 r.at_))]) [] [] rfl rfl rfl (handed_of (by decide) trivial) rfl rfl rfl rfl rfl rfl (w_burgageref1_Put ([u8I r.fn] ++ put2 r.at_) false ((UInt16.toNat r.and_ : Nat) : Int) (by first|omega|assumption|(simp; omega)|decide|(simp; done))) rfl (dist_of rfl) rfl rfl rfl rfl ⟨rfl,rfl,rfl⟩) rfl trivial rfl rfl ?_
           refine d_op ?_
           refine x_run0 [(1,PV.ptr 0 0)] [] rfl rfl rfl rfl (s_fa_ptr tab_27 rfl rfl tab_25 (by decide) rfl ⟨rfl,rfl,rfl⟩) ?_
           refine d_op ?_
           refine x_run [(83,PV.ptr 0 8)] [5] [(0,.obj [pI r.fn,pI r.at_,pI r.count,pI r.wAt,pI r.sub,pS 1 false encBo r.bits,pS 1 false enc16 r.vals,p16 r.and_,p16 r.or_])] [] [(0,.obj [pI r.fn,pI r.at_,pI r.count,pI r.wAt,pI r.sub,pS 1 false encBo r.bits,pS 1 false enc16 r.vals,p16 r.and_,p16 r.or_])] [] [(3,oB true 1 enc8 (([u8I r.fn] ++ put2 r.at_) ++ put2 ((UInt16.toNat r.and_ : Nat) : Int))),(2,oB false 1 enc8 ([u8I r.fn] ++ put2 r.at_)),(1,oB false 1 enc8 [u8I r.fn]),(0,.obj [pI r.fn,pI r.at_,pI r.count,pI r.wAt,pI r.sub,pS 1 false encBo r.bits,pS 1 false enc16 r.vals,p16 r.and_,p16 r.or_])] rfl rfl rfl rfl rfl rfl (s_load_ptr1 tab_25 rfl rfl rfl rfl rfl ⟨rfl,rfl,rfl⟩) rfl ⟨rfl,trivial⟩ rfl rfl ?_
           refine d_op ?_
           refine x_run0 [(84,p16 r.or_)] [5,6] rfl rfl rfl rfl (s_cvN (a := UInt16.toNat r.or_) tab_25 tab_3 rfl rfl rfl (by omega) (by have := lt16 r.or_; omega) ⟨rfl,rfl,rfl⟩) ?_
           refine d_op ?_
           refine x_run [(82,PV.ref 3 0 none),(85,pN (UInt16.toNat r.or_))] [0,1,2,3,4,5,6,7] [] [(3,oB true 1 enc8 (([u8I r.fn] ++ put2 r.at_) ++ put2 ((UInt16.toNat r.and_ : Nat) : Int)))] [(4,oB true 1 enc8 ((([u8I r.fn] ++ put2 r.at_) ++ put2 ((UInt16.toNat r.and_ : Nat) : Int)) ++ put2 ((UInt16.toNat r.or_ : Nat) : Int))),(3,oB false 1 enc8 (([u8I r.fn] ++ put2 r.at_) ++ put2 ((UInt16.toNat r.and_ : Nat) : Int)))] [(4,oB true 1 enc8 ((([u8I r.fn] ++ put2 r.at_) ++ put2 ((UInt16.toNat r.and_ : Nat) : Int)) ++ put2 ((UInt16.toNat r.or_ : Nat) : Int))),(3,oB false 1 enc8 (([u8I r.fn] ++ put2 r.at_) ++ put2 ((UInt16.toNat r.and_ : Nat) : Int)))] [(4,oB true 1 enc8 ((([u8I r.fn] ++ put2 r.at_) ++ put2 ((UInt16.toNat r.and_ : Nat) : Int)) ++ put2 ((UInt16.toNat r.or_ : Nat) : Int))),(3,oB false 1 enc8 (([u8I r.fn] ++ put2 r.at_) ++ put2 ((UInt16.toNat r.and_ : Nat) : Int))),(2,oB false 1 enc8 ([u8I r.fn] ++ put2 r.at_)),(1,oB false 1 enc8 [u8I r.fn]),(0,.obj [pI r.fn,pI r.at_,pI r.count,pI r.wAt,pI r.sub,pS 1 false encBo r.bits,pS 1 false enc16 r.vals,p16 r.and_,p16 r.or_])] rfl rfl rfl rfl rfl rfl (s_callX (r2 := PV.ref 4 0 none) (nx1 := 5) (H2 := [(3,oB false 1 enc8 (([u8I r.fn] ++ put2 r.at_) ++ put2 ((UInt16.toNat r.and_ : Nat) : Int)))]) (H3 := [(4,oB true 1 enc8 ((([u8I r.fn] ++ put2 r.at_) ++ put2 ((UInt16.toNat r.and_ : Nat) : Int)) ++ put2 ((UInt16.toNat r.or_ : Nat) : Int))),(3,oB false 1 enc8 (([u8I r.fn] ++ put2 r.at_) ++ put2 ((UInt16.toNat r.and_ : Nat) : Int)))]) [] [] rfl rfl rfl (handed_of (by decide) trivial) rfl rfl rfl rfl rfl rfl (w_burgageref1_Put (([u8I r.fn] ++ put2 r.at_) ++ put2 ((UInt16.toNat r.and_ : Nat) : Int)) false ((UInt16.toNat r.or_ : Nat) : Int) (by first|omega|assumption|(simp; omega)|decide|(simp; done))) rfl (dist_of rfl) rfl rfl rfl rfl ⟨rfl,rfl,rfl⟩) rfl trivial rfl rfl ?_
           refine d_op ?_
           refine x_run0 [(86,PV.ref 4 0 none)] [0,1,2,3,4,5,6,7,8] rfl rfl rfl rfl (s_assign rfl ⟨rfl,rfl,rfl⟩) ?_
           refine d_end ⟨by kernel_rfl, ?_⟩
           refine q_then ?_
           refine w_low (n := 4) rfl ?_
           refine w_H (H' := [(4,oB false 1 enc8 (writeR r)),(3,oB false 1 enc8 (([u8I r.fn] ++ put2 r.at_) ++ put2 ((UInt16.toNat r.and_ : Nat) : Int))),(2,oB false 1 enc8 ([u8I r.fn] ++ put2 r.at_)),(1,oB false 1 enc8 [u8I r.fn]),(0,.obj [pI r.fn,pI r.at_,pI r.count,pI r.wAt,pI r.sub,pS 1 false encBo r.bits,pS 1 false enc16 r.vals,p16 r.and_,p16 r.or_])]) (congrArg (fun z => ([(4,oB false 1 enc8 z),(3,oB false 1 enc8 (([u8I r.fn] ++ put2 r.at_) ++ put2 ((UInt16.toNat r.and_ : Nat) : Int))),(2,oB false 1 enc8 ([u8I r.fn] ++ put2 r.at_)),(1,oB false 1 enc8 [u8I r.fn]),(0,.obj [pI r.fn,pI r.at_,pI r.count,pI r.wAt,pI r.sub,pS 1 false encBo r.bits,pS 1 false enc16 r.vals,p16 r.and_,p16 r.or_])] : Heap)) (show (([u8I r.fn] ++ put2 r.at_) ++ put2 ((UInt16.toNat r.and_ : Nat) : Int)) ++ put2 ((UInt16.toNat r.or_ : Nat) : Int) = writeR r by first|(rw [writeR_1 (by omega)]; simp; done)|(rw [writeR_1 (by omega)]; done)|(rw [writeR_15 (by omega)]; simp; done)|(rw [writeR_16 (by omega)]; simp; done)|(rw [writeR_22 (by omega)]; simp; done)|(rw [writeR_23 (by omega)]; simp; done)|(rw [writeR_no (by omega)]; done)|(rw [writeR_5 (by omega) (by assumption)]; simp [*]; done)|(rw [writeR_6 (by omega) (by assumption)]; simp; done)|(rw [writeR_8 (by omega) (by assumption)]; simp; done))) ?_
           refine w_ret ?_
           refine q_block_ret ?_
           refine q_then_ret ?_
           exact fin_names (nx1 := 1) (H1 := [(0,oB false 1 enc8 (writeR r))]) [(0,4)] (ret_tmp rfl ret_nil) rfl (by decide) ⟨⟨_,_,rfl,rfl,rfl,rfl⟩,trivial⟩ (by decide) rfl ⟨rfl,rfl,rfl⟩
          ·
           have c11_ := c11
           try simp only [sB] at c11
           refine w_seq ?_
           refine w_R ?_
           refine qo hnt rfl (s_eql rfl rfl ?_)
           refine qa hnt rfl rfl ?_
           refine r_end ?_
           refine q_then ?_
           refine w_if rfl (fun c12 => ?_) (fun c12 => ?_)
           ·
            have c12_ := c12
            try simp only [sB] at c12
            refine w_seq ?_
            refine W_drawn tabOk mixed hnt [[],[],[1],[0,1,2],[],[4],[0,1,2,3,4,5],[],[7],[7,8],[0,1,2,3,4,5,6,7,8,9],[0,1,2,3,4,5,6,7,8,9,10]] (by kernel_rfl) ?_
            refine d_op ?_
            refine x_run0 [(4,PV.ref 2 0 none)] [] rfl rfl rfl rfl (s_move rfl ⟨rfl,rfl,rfl⟩) ?_
            refine d_op ?_
            refine x_run0 [(1,PV.ptr 0 0)] [] rfl rfl rfl rfl (s_fa_ptr tab_27 rfl rfl tab_3 (by decide) rfl ⟨rfl,rfl,rfl⟩) ?_
            refine d_op ?_
            refine x_run [(90,PV.ptr 0 2)] [1] [(0,.obj [pI r.fn,pI r.at_,pI r.count,pI r.wAt,pI r.sub,pS 1 false encBo r.bits,pS 1 false enc16 r.vals,p16 r.and_,p16 r.or_])] [] [(0,.obj [pI r.fn,pI r.at_,pI r.count,pI r.wAt,pI r.sub,pS 1 false encBo r.bits,pS 1 false enc16 r.vals,p16 r.and_,p16 r.or_])] [] [(2,oB true 1 enc8 ([u8I r.fn] ++ put2 r.at_)),(1,oB false 1 enc8 [u8I r.fn]),(0,.obj [pI r.fn,pI r.at_,pI r.count,pI r.wAt,pI r.sub,pS 1 false encBo r.bits,pS 1 false enc16 r.vals,p16 r.and_,p16 r.or_])] rfl rfl rfl rfl rfl rfl (s_load_ptr1 tab_3 rfl rfl rfl rfl rfl ⟨rfl,rfl,rfl⟩) rfl ⟨rfl,trivial⟩ rfl rfl ?_
            refine d_op ?_
            refine x_run [(89,PV.ref 2 0 none),(91,pI r.count)] [0,1,2] [] [(2,oB true 1 enc8 ([u8I r.fn] ++ put2 r.at_))] [(3,oB true 1 enc8 (([u8I r.fn] ++ put2 r.at_) ++ put2 r.count)),(2,oB false 1 enc8 ([u8I r.fn] ++ put2 r.at_))] [(3,oB true 1 enc8 (([u8I r.fn] ++ put2 r.at_) ++ put2 r.count)),(2,oB false 1 enc8 ([u8I r.fn] ++ put2 r.at_))] [(3,oB true 1 enc8 (([u8I r.fn] ++ put2 r.at_) ++ put2 r.count)),(2,oB false 1 enc8 ([u8I r.fn] ++ put2 r.at_)),(1,oB false 1 enc8 [u8I r.fn]),(0,.obj [pI r.fn,pI r.at_,pI r.count,pI r.wAt,pI r.sub,pS 1 false encBo r.bits,pS 1 false enc16 r.vals,p16 r.and_,p16 r.or_])] rfl rfl rfl rfl rfl rfl (s_callX (r2 := PV.ref 3 0 none) (nx1 := 4) (H2 := [(2,oB false 1 enc8 ([u8I r.fn] ++ put2 r.at_))]) (H3 := [(3,oB true 1 enc8 (([u8I r.fn] ++ put2 r.at_) ++ put2 r.count)),(2,oB false 1 enc8 ([u8I r.fn] ++ put2 r.at_))]) [] [] rfl rfl rfl (handed_of (by decide) trivial) rfl rfl rfl rfl rfl rfl (w_burgageref1_Put ([u8I r.fn] ++ put2 r.at_) false r.count (by first|omega|assumption|(simp; omega)|decide|(simp; done))) rfl (dist_of rfl) rfl rfl rfl rfl ⟨rfl,rfl,rfl⟩) rfl trivial rfl rfl ?_
            refine d_op ?_
            refine x_run0 [(1,PV.ptr 0 0)] [] rfl rfl rfl rfl (s_fa_ptr tab_27 rfl rfl tab_3 (by decide) rfl ⟨rfl,rfl,rfl⟩) ?_
            refine d_op ?_
            refine x_run [(93,PV.ptr 0 3)] [4] [(0,.obj [pI r.fn,pI r.at_,pI r.count,pI r.wAt,pI r.sub,pS 1 false encBo r.bits,pS 1 false enc16 r.vals,p16 r.and_,p16 r.or_])] [] [(0,.obj [pI r.fn,pI r.at_,pI r.count,pI r.wAt,pI r.sub,pS 1 false encBo r.bits,pS 1 false enc16 r.vals,p16 r.and_,p16 r.or_])] [] [(3,oB true 1 enc8 (([u8I r.fn] ++ put2 r.at_) ++ put2 r.count)),(2,oB false 1 enc8 ([u8I r.fn] ++ put2 r.at_)),(1,oB false 1 enc8 [u8I r.fn]),(0,.obj [pI r.fn,pI r.at_,pI r.count,pI r.wAt,pI r.sub,pS 1 false encBo r.bits,pS 1 false enc16 r.vals,p16 r.and_,p16 r.or_])] rfl rfl rfl rfl rfl rfl (s_load_ptr1 tab_3 rfl rfl rfl rfl rfl ⟨rfl,rfl,rfl⟩) rfl ⟨rfl,trivial⟩ rfl rfl ?_
            refine d_op ?_
            refine x_run [(92,PV.ref 3 0 none),(94,pI r.wAt)] [0,1,2,3,4,5] [] [(3,oB true 1 enc8 (([u8I r.fn] ++ put2 r.at_) ++ put2 r.count))] [(4,oB true 1 enc8 ((([u8I r.fn] ++ put2 r.at_) ++ put2 r.count) ++ put2 r.wAt)),(3,oB false 1 enc8 (([u8I r.fn] ++ put2 r.at_) ++ put2 r.count))] [(4,oB true 1 enc8 ((([u8I r.fn] ++ put2 r.at_) ++ put2 r.count) ++ put2 r.wAt)),(3,oB false 1 enc8 (([u8I r.fn] ++ put2 r.at_) ++ put2 r.count))] [(4,oB true 1 enc8 ((([u8I r.fn] ++ put2 r.at_) ++ put2 r.count) ++ put2 r.wAt)),(3,oB false 1 enc8 (([u8I r.fn] ++ put2 r.at_) ++ put2 r.count)),(2,oB false 1 enc8 ([u8I r.fn] ++ put2 r.at_)),(1,oB false 1 enc8 [u8I r.fn]),(0,.obj [pI r.fn,pI r.at_,pI r.count,pI r.wAt,pI r.sub,pS 1 false encBo r.bits,pS 1 false enc16 r.vals,p16 r.and_,p16 r.or_])] rfl rfl rfl rfl rfl rfl (s_callX (r2 := PV.ref 4 0 none) (nx1 := 5) (H2 := [(3,oB false 1 enc8 (([u8I r.fn] ++ put2 r.at_) ++ put2 r.count))]) (H3 := [(4,oB true 1 enc8 ((([u8I r.fn] ++ put2 r.at_) ++ put2 r.count) ++ put2 r.wAt)),(3,oB false 1 enc8 (([u8I r.fn] ++ put2 r.at_) ++ put2 r.count))]) [] [] rfl rfl rfl (handed_of (by decide) trivial) rfl rfl rfl rfl rfl rfl (w_burgageref1_Put (([u8I r.fn] ++ put2 r.at_) ++ put2 r.count) false r.wAt (by first|omega|assumption|(simp; omega)|decide|(simp; done))) rfl (dist_of rfl) rfl rfl rfl rfl ⟨rfl,rfl,rfl⟩) rfl trivial rfl rfl ?_
            refine d_op ?_
            refine x_run0 [(1,PV.ptr 0 0)] [] rfl rfl rfl rfl (s_fa_ptr tab_27 rfl rfl tab_24 (by decide) rfl ⟨rfl,rfl,rfl⟩) ?_
            refine d_op ?_
            refine x_run [(96,PV.ptr 0 6)] [7] [(0,.obj [pI r.fn,pI r.at_,pI r.count,pI r.wAt,pI r.sub,pS 1 false encBo r.bits,pS 1 false enc16 r.vals,p16 r.and_,p16 r.or_])] [] [(0,.obj [pI r.fn,pI r.at_,pI r.count,pI r.wAt,pI r.sub,pS 1 false encBo r.bits,pS 1 false enc16 r.vals,p16 r.and_,p16 r.or_])] [] [(4,oB true 1 enc8 ((([u8I r.fn] ++ put2 r.at_) ++ put2 r.count) ++ put2 r.wAt)),(3,oB false 1 enc8 (([u8I r.fn] ++ put2 r.at_) ++ put2 r.count)),(2,oB false 1 enc8 ([u8I r.fn] ++ put2 r.at_)),(1,oB false 1 enc8 [u8I r.fn]),(0,.obj [pI r.fn,pI r.at_,pI r.count,pI r.wAt,pI r.sub,pS 1 false encBo r.bits,pS 1 false enc16 r.vals,p16 r.and_,p16 r.or_])] rfl rfl rfl rfl rfl rfl (s_load_ptr1 tab_24 rfl rfl rfl rfl rfl ⟨rfl,rfl,rfl⟩) rfl ⟨rfl,trivial⟩ rfl rfl ?_
            refine d_op ?_
            refine x_run0 [(97,pS 1 false enc16 r.vals)] [7,8] rfl rfl rfl rfl (s_lenM (l := r.vals) tab_24 rfl (hM_sl (f := enc16) rfl) ⟨rfl,rfl,rfl⟩) ?_
            refine d_op ?_
            refine x_run [(95,PV.ref 4 0 none),(98,pN r.vals.length)] [0,1,2,3,4,5,6,7,8,9] [] [(4,oB true 1 enc8 ((([u8I r.fn] ++ put2 r.at_) ++ put2 r.count) ++ put2 r.wAt))] [(5,oB true 1 enc8 (((([u8I r.fn] ++ put2 r.at_) ++ put2 r.count) ++ put2 r.wAt) ++ put2 ((r.vals.length : Nat) : Int))),(4,oB false 1 enc8 ((([u8I r.fn] ++ put2 r.at_) ++ put2 r.count) ++ put2 r.wAt))] [(5,oB true 1 enc8 (((([u8I r.fn] ++ put2 r.at_) ++ put2 r.count) ++ put2 r.wAt) ++ put2 ((r.vals.length : Nat) : Int))),(4,oB false 1 enc8 ((([u8I r.fn] ++ put2 r.at_) ++ put2 r.count) ++ put2 r.wAt))] [(5,oB true 1 enc8 (((([u8I r.fn] ++ put2 r.at_) ++ put2 r.count) ++ put2 r.wAt) ++ put2 ((r.vals.length : Nat) : Int))),(4,oB false 1 enc8 ((([u8I r.fn] ++ put2 r.at_) ++ put2 r.count) ++ put2 r.wAt)),(3,oB false 1 enc8 (([u8I r.fn] ++ put2 r.at_) ++ put2 r.count)),(2,oB false 1 enc8 ([u8I r.fn] ++ put2 r.at_)),(1,oB false 1 enc8 [u8I r.fn]),(0,.obj [pI r.fn,pI r.at_,pI r.count,pI r.wAt,pI r.sub,pS 1 false encBo r.bits,pS 1 false enc16 r.vals,p16 r.and_,p16 r.or_])] rfl rfl rfl rfl rfl rfl (s_callX (r2 := PV.ref 5 0 none) (nx1 := 6) (H2 := [(4,oB false 1 enc8 ((([u8I r.fn] ++ put2 r.at_) ++ put2 r.count) ++ put2 r.wAt))]) (H3 := [(5,oB true 1 enc8 (((([u8I r.fn] ++ put2 r.at_) ++ put2 r.count) ++ put2 r.wAt) ++ put2 ((r.vals.length : Nat) : Int))),(4,oB false 1 enc8 ((([u8I r.fn] ++ put2 r.at_) ++ put2 r.count) ++ put2 r.wAt))]) [] [] rfl rfl rfl (handed_of (by decide) trivial) rfl rfl rfl rfl rfl rfl (w_burgageref1_Put ((([u8I r.fn] ++ put2 r.at_) ++ put2 r.count) ++ put2 r.wAt) false ((r.vals.length : Nat) : Int) (by first|omega|assumption|(simp; omega)|decide|(simp; done))) rfl (dist_of rfl) rfl rfl rfl rfl ⟨rfl,rfl,rfl⟩) rfl trivial rfl rfl ?_
            refine d_op ?_
            refine x_run0 [(99,PV.ref 5 0 none)] [0,1,2,3,4,5,6,7,8,9,10] rfl rfl rfl rfl (s_assign rfl ⟨rfl,rfl,rfl⟩) ?_
            refine d_end ⟨by kernel_rfl, ?_⟩
            refine q_then ?_
            refine w_seq ?_
            refine w_R ?_
            refine qm hnt rfl rfl ?_
            refine qo hnt rfl (s_fa_ptr tab_27 rfl rfl tab_24 (by decide) rfl ?_)
            refine qo hnt rfl (s_load_ptr1 tab_24 rfl rfl rfl rfl rfl ?_)
            refine qo hnt rfl (s_callX (r2 := PV.ref 6 0 none) (nx1 := 7) (H2 := [(5,oB true 1 enc8 (((([u8I r.fn] ++ put2 r.at_) ++ put2 r.count) ++ put2 r.wAt) ++ put2 ((r.vals.length : Nat) : Int))),(4,oB false 1 enc8 ((([u8I r.fn] ++ put2 r.at_) ++ put2 r.count) ++ put2 r.wAt)),(3,oB false 1 enc8 (([u8I r.fn] ++ put2 r.at_) ++ put2 r.count)),(2,oB false 1 enc8 ([u8I r.fn] ++ put2 r.at_)),(1,oB false 1 enc8 [u8I r.fn]),(0,.obj [pI r.fn,pI r.at_,pI r.count,pI r.wAt,pI r.sub,pS 1 false encBo r.bits,pS 1 false enc16 r.vals,p16 r.and_,p16 r.or_])]) (H3 := [(6,oB true 1 enc8 (bytesL r.vals)),(5,oB true 1 enc8 (((([u8I r.fn] ++ put2 r.at_) ++ put2 r.count) ++ put2 r.wAt) ++ put2 ((r.vals.length : Nat) : Int))),(4,oB false 1 enc8 ((([u8I r.fn] ++ put2 r.at_) ++ put2 r.count) ++ put2 r.wAt)),(3,oB false 1 enc8 (([u8I r.fn] ++ put2 r.at_) ++ put2 r.count)),(2,oB false 1 enc8 ([u8I r.fn] ++ put2 r.at_)),(1,oB false 1 enc8 [u8I r.fn]),(0,.obj [pI r.fn,pI r.at_,pI r.count,pI r.wAt,pI r.sub,pS 1 false encBo r.bits,pS 1 false enc16 r.vals,p16 r.and_,p16 r.or_])]) [] [] rfl rfl rfl (handed_of (by decide) trivial) rfl rfl rfl rfl rfl rfl (w_burgageref1_Bytes r.vals false (by first|omega|assumption|(simp; omega)|decide|(simp; done))) rfl (dist_of rfl) rfl rfl rfl rfl ?_)
            refine qo hnt rfl (s_callX (r2 := PV.ref 7 0 none) (nx1 := 8) (H2 := [(6,oB false 1 enc8 (bytesL r.vals)),(5,oB true 1 enc8 (((([u8I r.fn] ++ put2 r.at_) ++ put2 r.count) ++ put2 r.wAt) ++ put2 ((r.vals.length : Nat) : Int))),(4,oB false 1 enc8 ((([u8I r.fn] ++ put2 r.at_) ++ put2 r.count) ++ put2 r.wAt)),(3,oB false 1 enc8 (([u8I r.fn] ++ put2 r.at_) ++ put2 r.count)),(2,oB false 1 enc8 ([u8I r.fn] ++ put2 r.at_)),(1,oB false 1 enc8 [u8I r.fn]),(0,.obj [pI r.fn,pI r.at_,pI r.count,pI r.wAt,pI r.sub,pS 1 false encBo r.bits,pS 1 false enc16 r.vals,p16 r.and_,p16 r.or_])]) (H3 := [(7,oB true 1 enc8 ((((([u8I r.fn] ++ put2 r.at_) ++ put2 r.count) ++ put2 r.wAt) ++ put2 ((r.vals.length : Nat) : Int)) ++ rowX (bytesL r.vals))),(6,oB false 1 enc8 (bytesL r.vals)),(4,oB false 1 enc8 ((([u8I r.fn] ++ put2 r.at_) ++ put2 r.count) ++ put2 r.wAt)),(3,oB false 1 enc8 (([u8I r.fn] ++ put2 r.at_) ++ put2 r.count)),(2,oB false 1 enc8 ([u8I r.fn] ++ put2 r.at_)),(1,oB false 1 enc8 [u8I r.fn]),(0,.obj [pI r.fn,pI r.at_,pI r.count,pI r.wAt,pI r.sub,pS 1 false encBo r.bits,pS 1 false enc16 r.vals,p16 r.and_,p16 r.or_])]) [5] [oB true 1 enc8 (((([u8I r.fn] ++ put2 r.at_) ++ put2 r.count) ++ put2 r.wAt) ++ put2 ((r.vals.length : Nat) : Int))] rfl rfl rfl (handed_of (by decide) ⟨rfl,trivial⟩) rfl rfl rfl rfl rfl rfl (w_burgageref3_row (((([u8I r.fn] ++ put2 r.at_) ++ put2 r.count) ++ put2 r.wAt) ++ put2 ((r.vals.length : Nat) : Int)) true (bytesL r.vals) false (by first|omega|assumption|(simp; omega)|decide|(simp; done)) (by first|omega|assumption|(simp; omega)|decide|(simp; done))) rfl (dist_of rfl) rfl rfl rfl rfl ?_)
            refine qa hnt rfl rfl ?_
            refine r_set [(2,PV.ref 7 0 none)] [(7,oB true 1 enc8 ((((([u8I r.fn] ++ put2 r.at_) ++ put2 r.count) ++ put2 r.wAt) ++ put2 ((r.vals.length : Nat) : Int)) ++ rowX (bytesL r.vals))),(6,oB false 1 enc8 (bytesL r.vals)),(4,oB false 1 enc8 ((([u8I r.fn] ++ put2 r.at_) ++ put2 r.count) ++ put2 r.wAt)),(3,oB false 1 enc8 (([u8I r.fn] ++ put2 r.at_) ++ put2 r.count)),(2,oB false 1 enc8 ([u8I r.fn] ++ put2 r.at_)),(1,oB false 1 enc8 [u8I r.fn]),(0,.obj [pI r.fn,pI r.at_,pI r.count,pI r.wAt,pI r.sub,pS 1 false encBo r.bits,pS 1 false enc16 r.vals,p16 r.and_,p16 r.or_])] 8 ⟨rfl,trivial⟩ rfl rfl ?_
            refine r_end ?_
            refine q_then ?_
            refine w_low (n := 7) rfl ?_
            refine w_H (H' := [(7,oB false 1 enc8 (writeR r)),(6,oB false 1 enc8 (bytesL r.vals)),(4,oB false 1 enc8 ((([u8I r.fn] ++ put2 r.at_) ++ put2 r.count) ++ put2 r.wAt)),(3,oB false 1 enc8 (([u8I r.fn] ++ put2 r.at_) ++ put2 r.count)),(2,oB false 1 enc8 ([u8I r.fn] ++ put2 r.at_)),(1,oB false 1 enc8 [u8I r.fn]),(0,.obj [pI r.fn,pI r.at_,pI r.count,pI r.wAt,pI r.sub,pS 1 false encBo r.bits,pS 1 false enc16 r.vals,p16 r.and_,p16 r.or_])]) (congrArg (fun z => ([(7,oB false 1 enc8 z),(6,oB false 1 enc8 (bytesL r.vals)),(4,oB false 1 enc8 ((([u8I r.fn] ++ put2 r.at_) ++ put2 r.count) ++ put2 r.wAt)),(3,oB false 1 enc8 (([u8I r.fn] ++ put2 r.at_) ++ put2 r.count)),(2,oB false 1 enc8 ([u8I r.fn] ++ put2 r.at_)),(1,oB false 1 enc8 [u8I r.fn]),(0,.obj [pI r.fn,pI r.at_,pI r.count,pI r.wAt,pI r.sub,pS 1 false encBo r.bits,pS 1 false enc16 r.vals,p16 r.and_,p16 r.or_])] : Heap)) (show (((([u8I r.fn] ++ put2 r.at_) ++ put2 r.count) ++ put2 r.wAt) ++ put2 ((r.vals.length : Nat) : Int)) ++ rowX (bytesL r.vals) = writeR r by first|(rw [writeR_1 (by omega)]; simp; done)|(rw [writeR_1 (by omega)]; done)|(rw [writeR_15 (by omega)]; simp; done)|(rw [writeR_16 (by omega)]; simp; done)|(rw [writeR_22 (by omega)]; simp; done)|(rw [writeR_23 (by omega)]; simp; done)|(rw [writeR_no (by omega)]; done)|(rw [writeR_5 (by omega) (by assumption)]; simp [*]; done)|(rw [writeR_6 (by omega) (by assumption)]; simp; done)|(rw [writeR_8 (by omega) (by assumption)]; simp; done))) ?_
            refine w_ret ?_
            refine q_block_ret ?_
            refine q_then_ret ?_
            exact fin_names (nx1 := 1) (H1 := [(0,oB false 1 enc8 (writeR r))]) [(0,7)] (ret_tmp rfl ret_nil) rfl (by decide) ⟨⟨_,_,rfl,rfl,rfl,rfl⟩,trivial⟩ (by decide) rfl ⟨rfl,rfl,rfl⟩
           ·
            have c12_ := c12
            try simp only [sB] at c12
            refine w_skip ?_
            refine q_block ?_
            refine q_then ?_
            refine w_seq ?_
            refine w_R ?_
            refine qm hnt rfl rfl ?_
            refine qa hnt rfl rfl ?_
            refine r_end ?_
            refine q_then ?_
            refine w_H (H' := [(2,oB true 1 enc8 ([u8I r.fn] ++ put2 r.at_)),(1,oB false 1 enc8 (writeR r)),(0,.obj [pI r.fn,pI r.at_,pI r.count,pI r.wAt,pI r.sub,pS 1 false encBo r.bits,pS 1 false enc16 r.vals,p16 r.and_,p16 r.or_])]) (congrArg (fun z => ([(2,oB true 1 enc8 ([u8I r.fn] ++ put2 r.at_)),(1,oB false 1 enc8 z),(0,.obj [pI r.fn,pI r.at_,pI r.count,pI r.wAt,pI r.sub,pS 1 false encBo r.bits,pS 1 false enc16 r.vals,p16 r.and_,p16 r.or_])] : Heap)) (show [u8I r.fn] = writeR r by first|(rw [writeR_1 (by omega)]; simp; done)|(rw [writeR_1 (by omega)]; done)|(rw [writeR_15 (by omega)]; simp; done)|(rw [writeR_16 (by omega)]; simp; done)|(rw [writeR_22 (by omega)]; simp; done)|(rw [writeR_23 (by omega)]; simp; done)|(rw [writeR_no (by omega)]; done)|(rw [writeR_5 (by omega) (by assumption)]; simp [*]; done)|(rw [writeR_6 (by omega) (by assumption)]; simp; done)|(rw [writeR_8 (by omega) (by assumption)]; simp; done))) ?_
            refine w_ret ?_
            exact fin_names (nx1 := 1) (H1 := [(0,oB false 1 enc8 (writeR r))]) [(0,1)] (ret_tmp rfl ret_nil) rfl (by decide) ⟨⟨_,_,rfl,rfl,rfl,rfl⟩,trivial⟩ (by decide) rfl ⟨rfl,rfl,rfl⟩
theorem w_burgageref3_Bytes (r : TRequest) (hb : r.bits.length ≤ 140737488351232) (hv : r.vals.length ≤ 140737488351232) :
    T Try.prog 20 [PV.f (eRequest r)] 0 [] (Ret (PV.tup [PV.ref 0 0 none,pI (rightR r)]) 1 [(0,oB false 1 enc8 (bytesR r))]) := by
 refine t_fun tabOk (n := 12) (rs := [.tmp 2,.tmp 3]) Try.func20 rfl rfl rfl rfl (Nat.le_of_ble_eq_true rfl) ?_
 intro c hnt hk
 refine w_seq ?_
 refine w_R ?_
 refine qo hnt rfl (s_box rfl rfl ?_)
 refine qa hnt rfl rfl ?_
 refine qa hnt rfl rfl ?_
 refine r_set [(1,PV.ptr 0 0)] [(0,.obj [pI r.fn,pI r.at_,pI r.count,pI r.wAt,pI r.sub,pS 1 false encBo r.bits,pS 1 false enc16 r.vals,p16 r.and_,p16 r.or_])] 1 ⟨rfl,trivial⟩ rfl rfl ?_
 refine r_end ?_
 refine q_then ?_
 refine w_seq ?_
 refine w_seq ?_
 refine w_R ?_
 refine qo hnt rfl (s_load_ptr tab_27 rfl rfl rfl (Nat.le_of_ble_eq_true rfl) ?_)
 refine qo hnt rfl (s_callF rfl rfl rfl (w_burgageref3_Right r (by first|omega|assumption|(simp; omega)|decide|(simp; done)) (by first|omega|assumption|(simp; omega)|decide|(simp; done))) rfl ?_)
 refine qa hnt rfl rfl ?_
 refine r_end ?_
 refine q_then ?_
 refine w_seq ?_
 refine w_R ?_
 refine qm hnt rfl rfl ?_
 refine qo hnt rfl (s_neq rfl rfl ?_)
 refine r_end ?_
 refine q_then ?_
 refine w_if rfl (fun c1 => ?_) (fun c1 => ?_)
 ·
  have c1_ := c1
  try simp only [sB] at c1
  refine w_seq ?_
  refine w_R ?_
  refine qm hnt rfl rfl ?_
  refine qa hnt rfl rfl ?_
  refine qa hnt rfl rfl ?_
  refine r_end ?_
  refine q_then ?_
  refine w_adopt (s := 2) (sz := 1) rfl ?_
  refine w_low (n := 1) rfl ?_
  refine w_H (H' := [(1,oB false 1 enc8 (bytesR r)),(0,.obj [pI r.fn,pI r.at_,pI r.count,pI r.wAt,pI r.sub,pS 1 false encBo r.bits,pS 1 false enc16 r.vals,p16 r.and_,p16 r.or_])]) (congrArg (fun z => ([(1,oB false 1 enc8 z),(0,.obj [pI r.fn,pI r.at_,pI r.count,pI r.wAt,pI r.sub,pS 1 false encBo r.bits,pS 1 false enc16 r.vals,p16 r.and_,p16 r.or_])] : Heap)) (show ([] : List UInt8) = bytesR r by first|(simp [bytesR, *]; done)|simp [bytesR, *])) ?_
  refine w_ret ?_
  refine q_then_ret ?_
  exact fin_names (nx1 := 1) (H1 := [(0,oB false 1 enc8 (bytesR r))]) [(0,1)] (ret_tmp rfl (ret_tmp rfl ret_nil)) rfl (by decide) ⟨⟨_,_,rfl,rfl,rfl,rfl⟩,trivial⟩ (by decide) rfl ⟨rfl,rfl,rfl⟩
 ·
  have c1_ := c1
  try simp only [sB] at c1
  refine w_skip ?_
  refine q_then ?_
  refine w_seq ?_
  have hsh := (rightR_zero (by first|exact c1|simpa using c1_)).2
  have hsm := shape_small hsh
  have h5b := hsh.bits
  have h6b := hsh.vals
  refine w_R ?_
  refine qo hnt rfl (s_load_ptr tab_27 rfl rfl rfl (Nat.le_of_ble_eq_true rfl) ?_)
  refine qo hnt rfl (s_callX (r2 := PV.ref 1 0 none) (nx1 := 2) (H2 := [(0,.obj [pI r.fn,pI r.at_,pI r.count,pI r.wAt,pI r.sub,pS 1 false encBo r.bits,pS 1 false enc16 r.vals,p16 r.and_,p16 r.or_])]) (H3 := [(1,oB false 1 enc8 (writeR r)),(0,.obj [pI r.fn,pI r.at_,pI r.count,pI r.wAt,pI r.sub,pS 1 false encBo r.bits,pS 1 false enc16 r.vals,p16 r.and_,p16 r.or_])]) [] [] rfl rfl rfl (handed_of (by decide) trivial) rfl rfl rfl rfl rfl rfl (w_burgageref3_write r (by omega) (by omega) (by intro h; rw [if_pos h] at h5b; omega) (by intro h; rw [if_pos h] at h6b; omega)) rfl (dist_of rfl) rfl rfl rfl rfl ?_)
  refine qa hnt rfl rfl ?_
  refine qa hnt rfl rfl ?_
  refine r_set [(2,PV.ref 1 0 none),(3,pI 0)] [(1,oB false 1 enc8 (writeR r)),(0,.obj [pI r.fn,pI r.at_,pI r.count,pI r.wAt,pI r.sub,pS 1 false encBo r.bits,pS 1 false enc16 r.vals,p16 r.and_,p16 r.or_])] 2 ⟨rfl,rfl,trivial⟩ rfl rfl ?_
  refine r_end ?_
  refine q_then ?_
  refine w_le (s := 3) (y := pI (rightR r)) rfl (le_of_eq (congrArg (fun z : Int => pI z) (show 0 = (rightR r) by first|(simp [bytesR, *]; done)|simp [bytesR, *]))) ?_
  refine w_H (H' := [(1,oB false 1 enc8 (bytesR r)),(0,.obj [pI r.fn,pI r.at_,pI r.count,pI r.wAt,pI r.sub,pS 1 false encBo r.bits,pS 1 false enc16 r.vals,p16 r.and_,p16 r.or_])]) (congrArg (fun z => ([(1,oB false 1 enc8 z),(0,.obj [pI r.fn,pI r.at_,pI r.count,pI r.wAt,pI r.sub,pS 1 false encBo r.bits,pS 1 false enc16 r.vals,p16 r.and_,p16 r.or_])] : Heap)) (show writeR r = bytesR r by first|(simp [bytesR, *]; done)|simp [bytesR, *])) ?_
  refine w_ret ?_
  exact fin_names (nx1 := 1) (H1 := [(0,oB false 1 enc8 (bytesR r))]) [(0,1)] (ret_tmp rfl (ret_tmp rfl ret_nil)) rfl (by decide) ⟨⟨_,_,rfl,rfl,rfl,rfl⟩,trivial⟩ (by decide) rfl ⟨rfl,rfl,rfl⟩
end Go.Proofs.Ytigpfkcjpjhflaa
set_option linter.unusedVariables false
namespace Go.Proofs.Ytigpfkcjpjhflaa
open Go Go.Proofs.Ytigpfkcjpjhflaa.Pv
def tNext (L : List Int) (a : Nat) (n : Int) : Int := if L.length ≤ a ∨ n < 1 then 0 else (within (L.getD a 0) 0 1073741824).tmod n
def tStep (L : List Int) (a : Nat) (n : Int) : Nat := if L.length ≤ a ∨ n < 1 then a else a + 1
theorem tNext_lt (L : List Int) (a : Nat) {n : Int} (h : 1 ≤ n) : 0 ≤ tNext L a n ∧ tNext L a n < n := by
  unfold tNext
  split
  · omega
  · have := within_between (L.getD a 0) (lo := 0) (hi := 1073741824) (by decide)
    exact ⟨Int.tmod_nonneg _ this.1,Int.tmod_lt_of_pos _ (by omega)⟩
def fnsL : List Int := [1,2,3,4,5,6,8,15,16,17,22,23]
section
variable {L : List Int} {f w : Int} {a : Nat}
theorem u16I_ofNat {x : Int} : (u16I x).toNat = (x % 65536).toNat := by
  simp only [u16I]
  rw [UInt16.toNat_ofNat']; omega
end
theorem fns_has {i : Nat} {f : Int} (h : fnsL[i]? = some f) : hasF f = true := by
  have hz := List.mem_of_getElem? h
  simp only [fnsL,List.mem_cons,List.not_mem_nil,or_false] at hz
  unfold hasF
  exact decide_eq_true (by omega)
end Go.Proofs.Ytigpfkcjpjhflaa
set_option linter.unusedVariables false
namespace Go.Proofs.Ytigpfkcjpjhflaa
open Go Go.Proofs.Ytigpfkcjpjhflaa.Pv
def bitsN (q : TRequest) : Int := if q.fn = 5 then 1 else if q.fn = 15 then q.count else 0
def valsN (q : TRequest) : Int := if q.fn = 6 ∨ q.fn = 8 then 1 else if q.fn = 16 then q.count else if q.fn = 23 then ((q.vals.length : Nat) : Int) else 0
def fieldsP (q : TRequest) : Bool := decide (((q.fn ≠ 8 ∧ q.fn ≠ 17) ∨ q.at_ = 0) ∧ (((1 ≤ q.fn ∧ q.fn ≤ 4) ∨ q.fn = 15 ∨ q.fn = 16 ∨ q.fn = 23) ∨ q.count = 0) ∧ (q.fn = 23 ∨ q.wAt = 0) ∧ (q.fn = 8 ∨ q.sub = 0) ∧ (q.fn = 22 ∨ (q.and_.toNat = 0 ∧ q.or_.toNat = 0)))
def restP (q : TRequest) : Bool := ((((!(fieldsP q)) || (!(wordOk q.at_))) || (!(wordOk q.wAt))) || (!(wordOk q.sub))) || (!(wordOk q.count))
theorem shape_P {q : TRequest} (hf : hasF q.fn = true) : ShapeR q ↔ restP q = false ∧ ((q.bits.length : Nat) : Int) = bitsN q ∧ ((q.vals.length : Nat) : Int) = valsN q ∧ q.bits.length ≤ 2040 ∧ q.vals.length ≤ 127 := by
  have hc := hasF_of hf
  unfold restP fieldsP wordOk bitsN valsN
  simp only [Bool.or_eq_false_iff,Bool.not_eq_false',decide_eq_true_eq]
  constructor
  · rintro ⟨wa,wc,ww,ws,za,zc,zw,zs,zm,hb,hv⟩
    refine ⟨⟨⟨⟨⟨⟨by omega,by omega,by omega,by omega,by omega⟩,wa⟩,ww⟩,ws⟩,wc⟩, ?_, ?_, ?_, ?_⟩
    · repeat' split at hb
      all_goals (repeat' split) <;> omega
    · repeat' split at hv
      all_goals (repeat' split) <;> omega
    · repeat' split at hb
      all_goals omega
    · repeat' split at hv
      all_goals omega
  · rintro ⟨⟨⟨⟨⟨⟨a1,a2,a3,a4,a5⟩,wa⟩,ww⟩,ws⟩,wc⟩,hb,hv,hb2,hv2⟩
    refine ⟨wa,wc,ww,ws,by omega,by omega,by omega,by omega,by omega, ?_, ?_⟩
    · repeat' split at hb
      all_goals (repeat' split) <;> omega
    · repeat' split at hv
      all_goals (repeat' split) <;> omega
theorem right_P {q : TRequest} (hf : hasF q.fn = true) (h1 : restP q = false) (h2 : ((q.bits.length : Nat) : Int) = bitsN q) (h3 : ((q.vals.length : Nat) : Int) = valsN q) (h4 : q.bits.length ≤ 2040) (h5 : q.vals.length ≤ 127) : rightR q = 0 :=
  (shapeR_iff hf).2 ((shape_P hf).2 ⟨h1,h2,h3,h4,h5⟩)
theorem wrong_P {q : TRequest} (hf : hasF q.fn = true) (h : ¬ (restP q = false ∧ ((q.bits.length : Nat) : Int) = bitsN q ∧ ((q.vals.length : Nat) : Int) = valsN q ∧ q.bits.length ≤ 2040 ∧ q.vals.length ≤ 127)) : rightR q = 12 :=
  rightR_form hf fun hs => h ((shape_P hf).1 hs)
end Go.Proofs.Ytigpfkcjpjhflaa

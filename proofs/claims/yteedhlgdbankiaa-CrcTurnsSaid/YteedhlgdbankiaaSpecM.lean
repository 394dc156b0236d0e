/- Sums mix as rows do. -/
import Derived.Test.YteedhlgdbankiaaSpecA
namespace Go.Proofs.Yteedhlgdbankiaa
open Go Go.Proofs.Yteedhlgdbankiaa.Pv

def low (n : UInt16) : UInt16 := if n &&& 1 = 1 then 0xA001 else 0
theorem crcBit_low (n : UInt16) : crcBit n = (n >>> UInt16.ofNat 1) ^^^ low n := by
  unfold crcBit low
  split <;> simp
theorem and_one (n : UInt16) : n &&& 1 = 0 ∨ n &&& 1 = 1 := by
  have h : (n &&& 1).toNat = n.toNat % 2 := by
    rw [UInt16.toNat_and]
    exact Nat.and_one_is_mod _
  rcases Nat.mod_two_eq_zero_or_one n.toNat with h1 | h1
  · exact .inl (UInt16.toNat_inj.1 (by rw [h, h1]; rfl))
  · exact .inr (UInt16.toNat_inj.1 (by rw [h, h1]; rfl))
theorem low_xor (a b : UInt16) : low (a ^^^ b) = low a ^^^ low b := by
  have e : (a ^^^ b) &&& 1 = (a &&& 1) ^^^ (b &&& 1) := by
    apply UInt16.toBitVec_inj.1
    simp only [UInt16.toBitVec_and, UInt16.toBitVec_xor]
    apply BitVec.eq_of_getLsbD_eq
    intro i hi
    simp only [BitVec.getLsbD_and, BitVec.getLsbD_xor]
    cases a.toBitVec.getLsbD i <;> cases b.toBitVec.getLsbD i <;> simp
  unfold low
  rw [e]
  rcases and_one a with h1 | h1 <;> rcases and_one b with h2 | h2 <;> rw [h1, h2] <;> decide
theorem shr_xor (a b : UInt16) : (a ^^^ b) >>> UInt16.ofNat 1 = (a >>> UInt16.ofNat 1) ^^^ (b >>> UInt16.ofNat 1) := UInt16.shiftRight_xor
theorem xor4 (a b c d : UInt16) : (a ^^^ b) ^^^ (c ^^^ d) = (a ^^^ c) ^^^ (b ^^^ d) := by
  rw [UInt16.xor_assoc, UInt16.xor_assoc, ← UInt16.xor_assoc (a := b), UInt16.xor_comm (a := b), UInt16.xor_assoc (a := c)]
theorem crcBit_xor (a b : UInt16) : crcBit (a ^^^ b) = crcBit a ^^^ crcBit b := by
  rw [crcBit_low, crcBit_low, crcBit_low, low_xor, shr_xor, xor4]
theorem times_xor (n : Nat) (a b : UInt16) : times crcBit n (a ^^^ b) = times crcBit n a ^^^ times crcBit n b := by
  induction n with
  | zero => rfl
  | succ n ih => simp only [times]; rw [ih, crcBit_xor]
theorem crcByte_xor (a b : UInt16) (x y : UInt8) : crcByte (a ^^^ b) (x ^^^ y) = crcByte a x ^^^ crcByte b y := by
  unfold crcByte
  rw [← times_xor]
  congr 1
  rw [UInt8.toUInt16_xor, xor4]

/-- Two rows, mixed. -/
def zipx (l m : List UInt8) : List UInt8 := List.zipWith (· ^^^ ·) l m
theorem fold_xor : ∀ (l m : List UInt8), l.length = m.length → ∀ (a b c : UInt16),
    (zipx l m).foldl crcByte ((a ^^^ b) ^^^ c) = (l.foldl crcByte a ^^^ m.foldl crcByte b) ^^^ (List.replicate l.length 0).foldl crcByte c
  | [], [], _, a, b, c => rfl
  | [], _ :: _, h, _, _, _ => by simp at h
  | _ :: _, [], h, _, _, _ => by simp at h
  | x :: l, y :: m, h, a, b, c => by
    simp only [zipx, List.zipWith_cons_cons, List.foldl_cons, List.length_cons, List.replicate_succ]
    have e : crcByte ((a ^^^ b) ^^^ c) (x ^^^ y) = (crcByte a x ^^^ crcByte b y) ^^^ crcByte c 0 := by
      rw [← crcByte_xor, ← crcByte_xor, UInt8.xor_zero]
    rw [e]
    exact fold_xor l m (by simpa using h) _ _ _
def mixT (l m : List UInt8) (k i : Nat) : List UInt8 := zipx (l.take i) (m.take i) ++ List.replicate (k - i) 0
theorem mixT_length (l m : List UInt8) {k i : Nat} (h : i ≤ k) (h1 : k ≤ l.length) (h2 : k ≤ m.length) : (mixT l m k i).length = k := by
  simp [mixT, zipx]; omega
theorem mixT_zero (l m : List UInt8) (k : Nat) : mixT l m k 0 = List.replicate k 0 := by simp [mixT, zipx]
theorem mixT_set {l m : List UInt8} {k i : Nat} {a b : UInt8} (h : i < k) (ha : l[i]? = some a) (hb : m[i]? = some b) : (mixT l m k i).set i (a ^^^ b) = mixT l m k (i + 1) := by
  have hl : i < l.length := (List.getElem?_eq_some_iff.1 ha).1
  have hm : i < m.length := (List.getElem?_eq_some_iff.1 hb).1
  have e1 : l.take (i + 1) = l.take i ++ [a] := by rw [List.take_add_one, ha]; rfl
  have e2 : m.take (i + 1) = m.take i ++ [b] := by rw [List.take_add_one, hb]; rfl
  have e3 : zipx (l.take (i + 1)) (m.take (i + 1)) = zipx (l.take i) (m.take i) ++ [a ^^^ b] := by
    rw [e1, e2]; unfold zipx
    rw [List.zipWith_append (by simp; omega)]; rfl
  have e4 : List.replicate (k - i) (0 : UInt8) = 0 :: List.replicate (k - (i + 1)) 0 := by
    rw [← List.replicate_succ]; congr 1; omega
  have e5 : (zipx (l.take i) (m.take i)).length = i := by simp [zipx]; omega
  unfold mixT
  rw [e3, e4, List.set_append, if_neg (by omega), e5, Nat.sub_self]
  simp
theorem crc_mixes (l m : List UInt8) {k : Nat} (h1 : k ≤ l.length) (h2 : k ≤ m.length) :
    crcSum (mixT l m k k) = (crcSum ((l.take k).drop 0) ^^^ crcSum ((m.take k).drop 0)) ^^^ crcSum (List.replicate k 0) := by
  have := fold_xor (l.take k) (m.take k) (by simp; omega) 0xFFFF 0xFFFF 0xFFFF
  have e : (l.take k).length = k := by simp; omega
  rw [e] at this
  simp only [mixT, Nat.sub_self, List.replicate_zero, List.append_nil, List.drop_zero, crcSum]
  exact this
end Go.Proofs.Yteedhlgdbankiaa

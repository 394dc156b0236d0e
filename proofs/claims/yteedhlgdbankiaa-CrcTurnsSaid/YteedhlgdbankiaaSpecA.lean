/- What the functions of the checksums compute, told plainly. -/
import Derived.Test.YteedhlgdbankiaaTypes
namespace Go.Proofs.Yteedhlgdbankiaa
open Go Go.Proofs.Yteedhlgdbankiaa.Pv

theorem not_dec {p q : Prop} [Decidable p] [Decidable q] (h : p ↔ q) : ¬ ((!(decide p == decide q)) = true) := by
  have : decide p = decide q := by simp [h]
  simp [this]
theorem not_dec1 {p : Prop} [Decidable p] (h : p) : ¬ ((!decide p) = true) := by simp [h]
theorem not_dec2 {p : Prop} [Decidable p] (h : ¬ p) : ¬ (decide p = true) := by simp [h]
theorem not_dec3 {p : Prop} [Decidable p] (h : p) : ¬ (decide p = false) := by simp [h]
theorem not_dec4 {p : Prop} [Decidable p] (h : ¬ p) : ¬ ((!decide p) = false) := by simp [h]
theorem fin_normal {tab : Tab} {rs : List ResultVar} {k : Nat} {R : PV → Nat → Heap → Prop} {env : Env} {nx : Nat} {H : Heap} (h : FinP tab rs k R .ret env nx H) : FinP tab rs k R .normal env nx H := ⟨by simp, .inr rfl, h.2.2⟩
theorem not_deq {p q : Prop} [Decidable p] [Decidable q] (h : p ↔ q) : ¬ ((decide p == decide q) = false) := by
  have : decide p = decide q := by simp [h]
  simp [this]
/-- So many times. -/
def times {α : Type} (f : α → α) : Nat → α → α
  | 0, a => a
  | n + 1, a => f (times f n a)

def crcBit (n : UInt16) : UInt16 := if n &&& 1 = 1 then (n >>> UInt16.ofNat 1) ^^^ 0xA001 else n >>> UInt16.ofNat 1
def crcByte (n : UInt16) (c : UInt8) : UInt16 := times crcBit 8 (n ^^^ c.toUInt16)
def crcSum (l : List UInt8) : UInt16 := l.foldl crcByte 0xFFFF
theorem crcSum_snoc {l : List UInt8} {i : Nat} {b : UInt8} (h : l[i]? = some b) : crcSum (l.take (i + 1)) = crcByte (crcSum (l.take i)) b := by
  rw [List.take_add_one, h]
  simp [crcSum]
theorem cut_all {α : Type} (l : List α) : (l.take l.length).drop 0 = l := by simp
def sealL (l : List UInt8) : List UInt8 := l ++ [(crcSum l).toUInt8, (crcSum l >>> UInt16.ofNat 8).toUInt8]
def openOk (l : List UInt8) : Bool := decide (2 ≤ l.length) && decide (sealL (l.take (l.length - 2)) = l)
def openL (l : List UInt8) : List UInt8 := if openOk l then l.take (l.length - 2) else []
@[simp] theorem sealL_length (l : List UInt8) : (sealL l).length = l.length + 2 := by simp [sealL]
/-- A number brought into lo .. hi. -/
def within (n lo hi : Int) : Int := if lo ≤ n ∧ n ≤ hi then n else lo + (if n.tmod (hi - lo + 1) < 0 then n.tmod (hi - lo + 1) + hi - lo + 1 else n.tmod (hi - lo + 1))
theorem tmod_between (n : Int) {m : Int} (h : 0 < m) : -m < n.tmod m ∧ n.tmod m < m := by
  have h1 := Int.tmod_lt_of_pos n h
  have h2 := Int.tmod_lt_of_pos (-n) h
  rw [Int.neg_tmod] at h2
  exact ⟨by omega, h1⟩
theorem within_between (n : Int) {lo hi : Int} (h : lo ≤ hi) : lo ≤ within n lo hi ∧ within n lo hi ≤ hi := by
  have := tmod_between n (m := hi - lo + 1) (by omega)
  unfold within
  split
  · assumption
  · split <;> omega
theorem within_nat (n : Int) {hi : Int} (h : 0 ≤ hi) : ((within n 0 hi).toNat : Int) = within n 0 hi := Int.toNat_of_nonneg (within_between n h).1
def bsq (i : Nat) : List UInt8 := (List.range i).map fun j => UInt8.ofNat (j * j + 3)
@[simp] theorem bsq_length (i : Nat) : (bsq i).length = i := by simp [bsq]
end Go.Proofs.Yteedhlgdbankiaa

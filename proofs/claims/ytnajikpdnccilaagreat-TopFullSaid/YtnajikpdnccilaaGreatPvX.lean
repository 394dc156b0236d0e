/- Numbers of eight and sixteen bits, told as such. -/
import Derived.Test.YtnajikpdnccilaaGreatPvV
set_option linter.unusedVariables false
set_option linter.unusedSimpArgs false
namespace Go.Proofs.YtnajikpdnccilaaGreat.Pv
open Go

/-- Bytes, as a slice's elements. -/
def bytesU (l : List UInt8) : List FV := l.map fun b => .v (.int .u8 b.toNat)
@[simp] theorem bytesU_length (l : List UInt8) : (bytesU l).length = l.length := by simp [bytesU]
theorem bytesU_get {l : List UInt8} {i : Nat} {b : UInt8} (h : l[i]? = some b) : (bytesU l)[i]? = some (.v (.int .u8 b.toNat)) := by simp [bytesU, h]
theorem bytesU_append (a b : List UInt8) : bytesU (a ++ b) = bytesU a ++ bytesU b := by simp [bytesU]
theorem bytesU_take (l : List UInt8) (n : Nat) : (bytesU l).take n = bytesU (l.take n) := by simp [bytesU]
theorem bytesU_drop (l : List UInt8) (n : Nat) : (bytesU l).drop n = bytesU (l.drop n) := by simp [bytesU]
theorem bytesU_set (l : List UInt8) (n : Nat) (b : UInt8) : (bytesU l).set n (.v (.int .u8 b.toNat)) = bytesU (l.set n b) := by simp [bytesU, List.map_set]
theorem bytesU_replicate (n : Nat) (b : UInt8) : List.replicate n (FV.v (.int .u8 b.toNat)) = bytesU (List.replicate n b) := by simp [bytesU]

theorem wrap_u8 {n : Int} (h : 0 ≤ n ∧ n < 256) : IntKind.u8.wrap n = n := by
  have e1 : IntKind.u8.signed = false := rfl
  have e2 : IntKind.u8.bits = 8 := rfl
  simp only [IntKind.wrap, e1, e2]
  rw [show (2:Int) ^ 8 = 256 from rfl]
  simp; omega
theorem wrap_u16 {n : Int} (h : 0 ≤ n ∧ n < 65536) : IntKind.u16.wrap n = n := by
  have e1 : IntKind.u16.signed = false := rfl
  have e2 : IntKind.u16.bits = 16 := rfl
  simp only [IntKind.wrap, e1, e2]
  rw [show (2:Int) ^ 16 = 65536 from rfl]
  simp; omega
theorem wrap_u8_mod (n : Int) : IntKind.u8.wrap n = n % 256 := by
  have e1 : IntKind.u8.signed = false := rfl
  have e2 : IntKind.u8.bits = 8 := rfl
  simp only [IntKind.wrap, e1, e2]
  rw [show (2:Int) ^ 8 = 256 from rfl]
  simp
theorem wrap_u16_mod (n : Int) : IntKind.u16.wrap n = n % 65536 := by
  have e1 : IntKind.u16.signed = false := rfl
  have e2 : IntKind.u16.bits = 16 := rfl
  simp only [IntKind.wrap, e1, e2]
  rw [show (2:Int) ^ 16 = 65536 from rfl]
  simp
theorem lt8 (a : UInt8) : a.toNat < 256 := a.toBitVec.isLt
theorem lt16 (a : UInt16) : a.toNat < 65536 := a.toBitVec.isLt
theorem of16 (a : UInt16) : BitVec.ofInt 16 (a.toNat : Int) = a.toBitVec := by
  apply BitVec.eq_of_toNat_eq
  simp [BitVec.toNat_ofInt]
theorem of8 (a : UInt8) : BitVec.ofInt 8 (a.toNat : Int) = a.toBitVec := by
  apply BitVec.eq_of_toNat_eq
  simp [BitVec.toNat_ofInt]
theorem xor16 (a b : UInt16) : bitI .xor .u16 a.toNat b.toNat = (a ^^^ b).toNat := by
  have : bitI .xor .u16 a.toNat b.toNat = IntKind.u16.wrap ((BitVec.ofInt 16 (a.toNat : Int) ^^^ BitVec.ofInt 16 (b.toNat : Int)).toNat : Int) := rfl
  rw [this, of16, of16, wrap_u16 (by have := (a.toBitVec ^^^ b.toBitVec).isLt; omega)]; rfl
theorem and16 (a b : UInt16) : bitI .and .u16 a.toNat b.toNat = (a &&& b).toNat := by
  have : bitI .and .u16 a.toNat b.toNat = IntKind.u16.wrap ((BitVec.ofInt 16 (a.toNat : Int) &&& BitVec.ofInt 16 (b.toNat : Int)).toNat : Int) := rfl
  rw [this, of16, of16, wrap_u16 (by have := (a.toBitVec &&& b.toBitVec).isLt; omega)]; rfl
theorem or16 (a b : UInt16) : bitI .or .u16 a.toNat b.toNat = (a ||| b).toNat := by
  have : bitI .or .u16 a.toNat b.toNat = IntKind.u16.wrap ((BitVec.ofInt 16 (a.toNat : Int) ||| BitVec.ofInt 16 (b.toNat : Int)).toNat : Int) := rfl
  rw [this, of16, of16, wrap_u16 (by have := (a.toBitVec ||| b.toBitVec).isLt; omega)]; rfl
theorem xor8 (a b : UInt8) : bitI .xor .u8 a.toNat b.toNat = (a ^^^ b).toNat := by
  have : bitI .xor .u8 a.toNat b.toNat = IntKind.u8.wrap ((BitVec.ofInt 8 (a.toNat : Int) ^^^ BitVec.ofInt 8 (b.toNat : Int)).toNat : Int) := rfl
  rw [this, of8, of8, wrap_u8 (by have := (a.toBitVec ^^^ b.toBitVec).isLt; omega)]; rfl
theorem and8 (a b : UInt8) : bitI .and .u8 a.toNat b.toNat = (a &&& b).toNat := by
  have : bitI .and .u8 a.toNat b.toNat = IntKind.u8.wrap ((BitVec.ofInt 8 (a.toNat : Int) &&& BitVec.ofInt 8 (b.toNat : Int)).toNat : Int) := rfl
  rw [this, of8, of8, wrap_u8 (by have := (a.toBitVec &&& b.toBitVec).isLt; omega)]; rfl
theorem or8 (a b : UInt8) : bitI .or .u8 a.toNat b.toNat = (a ||| b).toNat := by
  have : bitI .or .u8 a.toNat b.toNat = IntKind.u8.wrap ((BitVec.ofInt 8 (a.toNat : Int) ||| BitVec.ofInt 8 (b.toNat : Int)).toNat : Int) := rfl
  rw [this, of8, of8, wrap_u8 (by have := (a.toBitVec ||| b.toBitVec).isLt; omega)]; rfl
theorem shr16 (a : UInt16) (n : Nat) (hn : n < 16) : ((a.toNat : Int)).fdiv (2 ^ min ((n : Int)).toNat IntKind.u16.bits) = (a >>> UInt16.ofNat n).toNat := by
  have e : IntKind.u16.bits = 16 := rfl
  have e2 : ((n : Int)).toNat = n := rfl
  rw [e, e2, Nat.min_eq_left (by omega)]
  have : (a >>> UInt16.ofNat n).toNat = a.toNat / 2 ^ n := by
    rw [UInt16.toNat_shiftRight, Nat.shiftRight_eq_div_pow]
    congr 2
    simp; omega
  rw [this, Int.fdiv_eq_ediv_of_nonneg _ (Int.le_of_lt (Int.pow_pos (by omega)))]
  rw [Int.natCast_ediv, Int.natCast_pow]; rfl
theorem shl16 (a : UInt16) (n : Nat) (hn : n < 16) : IntKind.u16.wrap ((a.toNat : Int) * 2 ^ min ((n : Int)).toNat IntKind.u16.bits) = (a <<< UInt16.ofNat n).toNat := by
  have e : IntKind.u16.bits = 16 := rfl
  have e2 : ((n : Int)).toNat = n := rfl
  rw [e, e2, Nat.min_eq_left (by omega), wrap_u16_mod]
  have : (a <<< UInt16.ofNat n).toNat = a.toNat * 2 ^ n % 65536 := by
    rw [UInt16.toNat_shiftLeft, Nat.shiftLeft_eq]
    have h1 : (UInt16.ofNat n).toNat % 16 = n := by simp; omega
    rw [h1]
  rw [this, Int.natCast_emod, Int.natCast_mul, Int.natCast_pow]; rfl

section
variable {P : Program} {tab : Tab} {nx : Nat} {env : Env} {H : Heap} {K : PV → Nat → Heap → Prop} {t u : Nat} {x y : Operand}
theorem s_xor16 {a b : UInt16} (h1 : ev env x = some (.f (.v (.int .u16 a.toNat)))) (h2 : ev env y = some (.f (.v (.int .u16 b.toNat)))) (h : K (.f (.v (.int .u16 (a ^^^ b).toNat))) nx H) : stepOp P tab env nx H K (.binOp .xor t x y u) := s_xor h1 h2 (by rw [xor16]; exact h)
theorem s_and16 {a b : UInt16} (h1 : ev env x = some (.f (.v (.int .u16 a.toNat)))) (h2 : ev env y = some (.f (.v (.int .u16 b.toNat)))) (h : K (.f (.v (.int .u16 (a &&& b).toNat))) nx H) : stepOp P tab env nx H K (.binOp .and t x y u) := s_and h1 h2 (by rw [and16]; exact h)
theorem s_or16 {a b : UInt16} (h1 : ev env x = some (.f (.v (.int .u16 a.toNat)))) (h2 : ev env y = some (.f (.v (.int .u16 b.toNat)))) (h : K (.f (.v (.int .u16 (a ||| b).toNat))) nx H) : stepOp P tab env nx H K (.binOp .or t x y u) := s_or h1 h2 (by rw [or16]; exact h)
theorem s_xor8 {a b : UInt8} (h1 : ev env x = some (.f (.v (.int .u8 a.toNat)))) (h2 : ev env y = some (.f (.v (.int .u8 b.toNat)))) (h : K (.f (.v (.int .u8 (a ^^^ b).toNat))) nx H) : stepOp P tab env nx H K (.binOp .xor t x y u) := s_xor h1 h2 (by rw [xor8]; exact h)
theorem s_and8 {a b : UInt8} (h1 : ev env x = some (.f (.v (.int .u8 a.toNat)))) (h2 : ev env y = some (.f (.v (.int .u8 b.toNat)))) (h : K (.f (.v (.int .u8 (a &&& b).toNat))) nx H) : stepOp P tab env nx H K (.binOp .and t x y u) := s_and h1 h2 (by rw [and8]; exact h)
theorem s_or8 {a b : UInt8} (h1 : ev env x = some (.f (.v (.int .u8 a.toNat)))) (h2 : ev env y = some (.f (.v (.int .u8 b.toNat)))) (h : K (.f (.v (.int .u8 (a ||| b).toNat))) nx H) : stepOp P tab env nx H K (.binOp .or t x y u) := s_or h1 h2 (by rw [or8]; exact h)
theorem s_shr16 {a : UInt16} (n : Nat) {k : IntKind} (h1 : ev env x = some (.f (.v (.int .u16 a.toNat)))) (h2 : ev env y = some (.f (.v (.int k (n : Nat))))) (hn : n < 16) (h : K (.f (.v (.int .u16 (a >>> UInt16.ofNat n).toNat))) nx H) : stepOp P tab env nx H K (.binOp .shr t x y u) :=
  s_shr h1 h2 (by omega) (by rw [shr16 a n hn]; exact h)
theorem s_shl16 {a : UInt16} (n : Nat) {k : IntKind} (h1 : ev env x = some (.f (.v (.int .u16 a.toNat)))) (h2 : ev env y = some (.f (.v (.int k (n : Nat))))) (hn : n < 16) (h : K (.f (.v (.int .u16 (a <<< UInt16.ofNat n).toNat))) nx H) : stepOp P tab env nx H K (.binOp .shl t x y u) :=
  s_shl h1 h2 (by omega) (by rw [shl16 a n hn]; exact h)
theorem s_eql16 {a b : UInt16} (h1 : ev env x = some (.f (.v (.int .u16 a.toNat)))) (h2 : ev env y = some (.f (.v (.int .u16 b.toNat)))) (h : K (.f (.v (.bool (decide (a = b))))) nx H) : stepOp P tab env nx H K (.binOp .eql t x y u) :=
  s_eql h1 h2 (by
    have : decide ((a.toNat : Int) = b.toNat) = decide (a = b) := by
      by_cases e : a = b
      · subst e; simp
      · have : a.toNat ≠ b.toNat := fun q => e (UInt16.toNat_inj.1 q)
        simp [e]; omega
    rw [this]; exact h)
theorem s_neq16 {a b : UInt16} (h1 : ev env x = some (.f (.v (.int .u16 a.toNat)))) (h2 : ev env y = some (.f (.v (.int .u16 b.toNat)))) (h : K (.f (.v (.bool (!decide (a = b))))) nx H) : stepOp P tab env nx H K (.binOp .neq t x y u) :=
  s_neq h1 h2 (by
    have : decide ((a.toNat : Int) = b.toNat) = decide (a = b) := by
      by_cases e : a = b
      · subst e; simp
      · have : a.toNat ≠ b.toNat := fun q => e (UInt16.toNat_inj.1 q)
        simp [e]; omega
    rw [this]; exact h)
theorem s_eql8 {a b : UInt8} (h1 : ev env x = some (.f (.v (.int .u8 a.toNat)))) (h2 : ev env y = some (.f (.v (.int .u8 b.toNat)))) (h : K (.f (.v (.bool (decide (a = b))))) nx H) : stepOp P tab env nx H K (.binOp .eql t x y u) :=
  s_eql h1 h2 (by
    have : decide ((a.toNat : Int) = b.toNat) = decide (a = b) := by
      by_cases e : a = b
      · subst e; simp
      · have : a.toNat ≠ b.toNat := fun q => e (UInt8.toNat_inj.1 q)
        simp [e]; omega
    rw [this]; exact h)
theorem s_neq8 {a b : UInt8} (h1 : ev env x = some (.f (.v (.int .u8 a.toNat)))) (h2 : ev env y = some (.f (.v (.int .u8 b.toNat)))) (h : K (.f (.v (.bool (!decide (a = b))))) nx H) : stepOp P tab env nx H K (.binOp .neq t x y u) :=
  s_neq h1 h2 (by
    have : decide ((a.toNat : Int) = b.toNat) = decide (a = b) := by
      by_cases e : a = b
      · subst e; simp
      · have : a.toNat ≠ b.toNat := fun q => e (UInt8.toNat_inj.1 q)
        simp [e]; omega
    rw [this]; exact h)
theorem s_conv816 {s t : Nat} {is it : TI} {k2 : IntKind} {a : UInt8} (h1 : tab s = some is) (h2 : tab t = some it) (h3 : it.kd = .int .u16) (h4 : is.kd = .int k2) (h5 : ev env x = some (.f (.v (.int .u8 a.toNat)))) (h : K (.f (.v (.int .u16 a.toUInt16.toNat))) nx H) :
    stepOp P tab env nx H K (.convert s t x) := s_conv h1 h2 h3 h4 h5 (by
      rw [wrap_u16 (by have := lt8 a; omega)]
      have : a.toUInt16.toNat = a.toNat := by simp
      rw [← this]; exact h)
theorem s_conv168 {s t : Nat} {is it : TI} {k2 : IntKind} {a : UInt16} (h1 : tab s = some is) (h2 : tab t = some it) (h3 : it.kd = .int .u8) (h4 : is.kd = .int k2) (h5 : ev env x = some (.f (.v (.int .u16 a.toNat)))) (h : K (.f (.v (.int .u8 a.toUInt8.toNat))) nx H) :
    stepOp P tab env nx H K (.convert s t x) := s_conv h1 h2 h3 h4 h5 (by
      rw [wrap_u8_mod]
      have : a.toUInt8.toNat = a.toNat % 256 := UInt16.toNat_toUInt8 a
      have e : ((a.toNat : Int)) % 256 = (a.toUInt8.toNat : Int) := by rw [this, Int.natCast_emod]; rfl
      rw [e]; exact h)
/-- From any number to a byte. -/
theorem s_conv8 {s t : Nat} {is it : TI} {k k2 : IntKind} {a : Int} {b : UInt8} (h1 : tab s = some is) (h2 : tab t = some it) (h3 : it.kd = .int .u8) (h4 : is.kd = .int k2) (h5 : ev env x = some (.f (.v (.int k a)))) (hb : (b.toNat : Int) = a % 256)
    (h : K (.f (.v (.int .u8 b.toNat))) nx H) : stepOp P tab env nx H K (.convert s t x) := s_conv h1 h2 h3 h4 h5 (by rw [wrap_u8_mod, ← hb]; exact h)
theorem s_conv16 {s t : Nat} {is it : TI} {k k2 : IntKind} {a : Int} {b : UInt16} (h1 : tab s = some is) (h2 : tab t = some it) (h3 : it.kd = .int .u16) (h4 : is.kd = .int k2) (h5 : ev env x = some (.f (.v (.int k a)))) (hb : (b.toNat : Int) = a % 65536)
    (h : K (.f (.v (.int .u16 b.toNat))) nx H) : stepOp P tab env nx H K (.convert s t x) := s_conv h1 h2 h3 h4 h5 (by rw [wrap_u16_mod, ← hb]; exact h)
/-- A small number as an int. -/
theorem s_conv_i {s t : Nat} {is it : TI} {k k2 : IntKind} {a : Int} (h1 : tab s = some is) (h2 : tab t = some it) (h3 : it.kd = .int .i64) (h4 : is.kd = .int k2) (h5 : ev env x = some (.f (.v (.int k a)))) (hb : -9223372036854775808 ≤ a ∧ a ≤ 9223372036854775807)
    (h : K (.f (.v (.int .i64 a))) nx H) : stepOp P tab env nx H K (.convert s t x) := s_conv h1 h2 h3 h4 h5 (by rw [wrap_i64 hb]; exact h)
end
end Go.Proofs.YtnajikpdnccilaaGreat.Pv

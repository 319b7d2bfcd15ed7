/- Words of 64 and 32 bits as the walk spells them, and as bit vectors. No program. -/
import Derived.WalkKit
namespace Go.Proofs.Ytngegkonijljnaa
open Go.RowKit

theorem hide {p : Prop} (h : p) : Hid p := h
theorem ofInt_nat (a : Nat) : BitVec.ofInt 64 (a : Int) = BitVec.ofNat 64 a := BitVec.ofInt_natCast ..
theorem ofNat_toNat64 (x : BitVec 64) : BitVec.ofInt 64 (x.toNat : Int) = x := by rw [BitVec.ofInt_natCast, BitVec.ofNat_toNat, BitVec.setWidth_eq]
theorem ofNat_toNat32 (x : BitVec 32) : BitVec.ofInt 32 (x.toNat : Int) = x := by rw [BitVec.ofInt_natCast, BitVec.ofNat_toNat, BitVec.setWidth_eq]
theorem u64_toNat (n : Nat) : IntKind.u64.wrap (n : Int) = ((BitVec.ofNat 64 n).toNat : Int) := by rw [IntKind.wrap_u64, BitVec.toNat_ofNat]; omega
theorem i64_toInt (x : BitVec 64) : IntKind.i64.wrap (x.toNat : Int) = x.toInt := by
  rw [IntKind.wrap_i64, BitVec.toInt_eq_toNat_cond]; have := x.isLt; split <;> omega
theorem u64_toInt (x : BitVec 64) : IntKind.u64.wrap x.toInt = (x.toNat : Int) := by
  rw [IntKind.wrap_u64, BitVec.toInt_eq_toNat_cond]; have := x.isLt; split <;> omega
theorem i32_toInt (x : BitVec 32) : IntKind.i32.wrap (x.toNat : Int) = x.toInt := by
  rw [IntKind.wrap_i32, BitVec.toInt_eq_toNat_cond]; have := x.isLt; split <;> omega
theorem u32_toInt (x : BitVec 32) : IntKind.u32.wrap x.toInt = (x.toNat : Int) := by
  rw [IntKind.wrap_u32, BitVec.toInt_eq_toNat_cond]; have := x.isLt; split <;> omega
theorem u32_low (x : BitVec 64) : IntKind.u32.wrap (x.toNat : Int) = ((x.setWidth 32).toNat : Int) := by
  rw [IntKind.wrap_u32, BitVec.toNat_setWidth]; omega
theorem sext_toInt (x : BitVec 32) : x.toInt = (x.signExtend 64).toInt := (BitVec.toInt_signExtend_of_le (by omega)).symm
theorem u64_sext (x : BitVec 32) : IntKind.u64.wrap x.toInt = ((x.signExtend 64).toNat : Int) := by rw [sext_toInt, u64_toInt]
theorem and64 (x y : BitVec 64) : bits .and .u64 (x.toNat : Int) (y.toNat : Int) = ((x &&& y).toNat : Int) := by
  show IntKind.u64.wrap ((BitVec.ofInt 64 (x.toNat : Int) &&& BitVec.ofInt 64 (y.toNat : Int)).toNat : Int) = _
  rw [ofNat_toNat64, ofNat_toNat64, u64_toNat, BitVec.ofNat_toNat, BitVec.setWidth_eq]
theorem or64 (x y : BitVec 64) : bits .or .u64 (x.toNat : Int) (y.toNat : Int) = ((x ||| y).toNat : Int) := by
  show IntKind.u64.wrap ((BitVec.ofInt 64 (x.toNat : Int) ||| BitVec.ofInt 64 (y.toNat : Int)).toNat : Int) = _
  rw [ofNat_toNat64, ofNat_toNat64, u64_toNat, BitVec.ofNat_toNat, BitVec.setWidth_eq]
theorem xor64 (x y : BitVec 64) : bits .xor .u64 (x.toNat : Int) (y.toNat : Int) = ((x ^^^ y).toNat : Int) := by
  show IntKind.u64.wrap ((BitVec.ofInt 64 (x.toNat : Int) ^^^ BitVec.ofInt 64 (y.toNat : Int)).toNat : Int) = _
  rw [ofNat_toNat64, ofNat_toNat64, u64_toNat, BitVec.ofNat_toNat, BitVec.setWidth_eq]
theorem and63 (y : BitVec 64) : bits .and .u64 (y.toNat : Int) 63 = ((y.toNat % 64 : Nat) : Int) := by
  have := and64 y 63#64
  rw [show ((63#64).toNat : Int) = 63 from rfl] at this
  rw [this, BitVec.toNat_and]
  congr 1
  exact Nat.and_two_pow_sub_one_eq_mod _ 6
theorem and31 (y : BitVec 32) : bits .and .u32 (y.toNat : Int) 31 = ((y.toNat % 32 : Nat) : Int) := by
  show IntKind.u32.wrap ((BitVec.ofInt 32 (y.toNat : Int) &&& BitVec.ofInt 32 ((31 : Nat) : Int)).toNat : Int) = _
  rw [ofNat_toNat32, BitVec.toNat_and, BitVec.ofInt_natCast, BitVec.toNat_ofNat, IntKind.wrap_u32]
  have e : y.toNat &&& 31 % 2 ^ 32 = y.toNat % 32 := Nat.and_two_pow_sub_one_eq_mod _ 5
  rw [e]; omega
theorem add64 (x y : BitVec 64) : IntKind.u64.wrap ((x.toNat : Int) + y.toNat) = ((x + y).toNat : Int) := by rw [IntKind.wrap_u64, BitVec.toNat_add]; omega
theorem neg64 (y : BitVec 64) : IntKind.u64.wrap (-(y.toNat : Int)) = ((-y).toNat : Int) := by rw [IntKind.wrap_u64, BitVec.toNat_neg]; have := y.isLt; omega
theorem add32 (x y : BitVec 32) : IntKind.u32.wrap ((x.toNat : Int) + y.toNat) = ((x + y).toNat : Int) := by rw [IntKind.wrap_u32, BitVec.toNat_add]; omega
theorem neg32 (y : BitVec 32) : IntKind.u32.wrap (-(y.toNat : Int)) = ((-y).toNat : Int) := by rw [IntKind.wrap_u32, BitVec.toNat_neg]; have := y.isLt; omega
theorem shl64 (x : BitVec 64) (s : Nat) : IntKind.u64.wrap ((x.toNat : Int) * 2 ^ s) = ((x <<< s).toNat : Int) := by
  rw [BitVec.toNat_shiftLeft, Nat.shiftLeft_eq, IntKind.wrap_u64]
  have : ((x.toNat : Int) * 2 ^ s) = ((x.toNat * 2 ^ s : Nat) : Int) := by rw [Int.natCast_mul, Int.natCast_pow]; rfl
  rw [this]; omega
theorem shl32 (x : BitVec 32) (s : Nat) : IntKind.u32.wrap ((x.toNat : Int) * 2 ^ s) = ((x <<< s).toNat : Int) := by
  rw [BitVec.toNat_shiftLeft, Nat.shiftLeft_eq, IntKind.wrap_u32]
  have : ((x.toNat : Int) * 2 ^ s) = ((x.toNat * 2 ^ s : Nat) : Int) := by rw [Int.natCast_mul, Int.natCast_pow]; rfl
  rw [this]; omega
theorem shr64 (x : BitVec 64) (s : Nat) : (x.toNat : Int) / 2 ^ s = ((x >>> s).toNat : Int) := by
  rw [BitVec.toNat_ushiftRight, Nat.shiftRight_eq_div_pow, Int.natCast_ediv, Int.natCast_pow]; rfl
theorem shr32 (x : BitVec 32) (s : Nat) : (x.toNat : Int) / 2 ^ s = ((x >>> s).toNat : Int) := by
  rw [BitVec.toNat_ushiftRight, Nat.shiftRight_eq_div_pow, Int.natCast_ediv, Int.natCast_pow]; rfl
theorem sra64 (x : BitVec 64) (s : Nat) : x.toInt / 2 ^ s = (x.sshiftRight s).toInt := by
  rw [BitVec.toInt_sshiftRight, Int.shiftRight_eq_div_pow]; norm_cast
theorem sra32 (x : BitVec 32) (s : Nat) : x.toInt / 2 ^ s = (x.sshiftRight s).toInt := by
  rw [BitVec.toInt_sshiftRight, Int.shiftRight_eq_div_pow]; norm_cast
theorem of_u64 {n : Int} (h : (Lit.int .u64 n).wf = true) : ∃ x : BitVec 64, n = (x.toNat : Int) := by
  simp [Lit.wf] at h
  have h1 : IntKind.u64.min = 0 := by decide
  have h2 : IntKind.u64.max = 18446744073709551615 := by decide
  refine ⟨BitVec.ofNat 64 n.toNat, ?_⟩
  rw [BitVec.toNat_ofNat]; omega
end Go.Proofs.Ytngegkonijljnaa

/- Words moved down a place at a time. No program. -/
import Derived.Test.YtnncifcfgjphlaaBits
namespace Go.Proofs.Ytnncifcfgjphlaa
theorem sq_64u (x : BitVec 64) (j : Nat) : x >>> (j + 1) = (x >>> j) >>> 1 := BitVec.shiftRight_add ..
theorem getLsbD_least (i : Nat) (h : i < 64) : (9223372036854775808#64).getLsbD i = decide (i = 63) := by
  rw [show 9223372036854775808#64 = BitVec.twoPow 64 63 from by decide, BitVec.getLsbD_twoPow]
  by_cases e : i = 63
  · subst e; rfl
  · have d : decide (63 = i) = false := decide_eq_false (fun k => e k.symm)
    rw [d, decide_eq_false e]; simp
theorem getLsbD_half (i : Nat) (h : i < 64) : (2147483648#64).getLsbD i = decide (i = 31) := by
  rw [show 2147483648#64 = BitVec.twoPow 64 31 from by decide, BitVec.getLsbD_twoPow]
  by_cases e : i = 31
  · subst e; rfl
  · have d : decide (31 = i) = false := decide_eq_false (fun k => e k.symm)
    rw [d, decide_eq_false e]; simp
theorem sq_64s (x : BitVec 64) (j : Nat) : x.sshiftRight (j + 1) = (x.sshiftRight j) >>> 1 ||| (if (x.sshiftRight j).getLsbD 63 then 9223372036854775808#64 else 0#64) := by
  have m : (x.sshiftRight j).getLsbD 63 = x.msb := by
    rw [BitVec.getLsbD_sshiftRight]
    by_cases h : j + 63 < 64
    · have : j = 0 := by omega
      subst this; simp [BitVec.msb_eq_getLsbD_last]
    · simp [h]
  rw [m]
  apply BitVec.eq_of_getLsbD_eq
  intro i hi
  rw [BitVec.getLsbD_or, BitVec.getLsbD_sshiftRight, BitVec.getLsbD_ushiftRight, BitVec.getLsbD_sshiftRight]
  by_cases h : i = 63
  · subst h
    have e1 : ¬ (j + 1 + 63 < 64) := by omega
    simp only [e1, if_false]
    cases x.msb <;> simp <;> decide
  · have e1 : ¬ 64 ≤ i := by omega
    have e2 : ¬ 64 ≤ 1 + i := by omega
    have e3 : j + (1 + i) = j + 1 + i := by omega
    have e4 : (if x.msb then 9223372036854775808#64 else 0#64).getLsbD i = false := by
      cases x.msb
      · simp
      · rw [if_pos rfl, getLsbD_least i hi, decide_eq_false h]
    rw [e4, e3]
    simp [e1, e2]
theorem sq_32u (z : BitVec 32) (j : Nat) : (z >>> (j + 1)).setWidth 64 = ((z >>> j).setWidth 64) >>> 1 := by
  apply BitVec.eq_of_toNat_eq
  rw [BitVec.toNat_setWidth, BitVec.toNat_ushiftRight, BitVec.toNat_ushiftRight, BitVec.toNat_setWidth, BitVec.toNat_ushiftRight, Nat.shiftRight_eq_div_pow, Nat.shiftRight_eq_div_pow, Nat.shiftRight_eq_div_pow, Nat.pow_succ, ← Nat.div_div_eq_div_mul]
  have : z.toNat / 2 ^ j ≤ z.toNat := Nat.div_le_self ..
  have := z.isLt
  generalize z.toNat / 2 ^ j = k at *
  omega
theorem sq_32s (z : BitVec 32) (j : Nat) : (z.sshiftRight (j + 1)).setWidth 64 = ((z.sshiftRight j).setWidth 64) >>> 1 ||| (if ((z.sshiftRight j).setWidth 64).getLsbD 31 then 2147483648#64 else 0#64) := by
  have m : ((z.sshiftRight j).setWidth 64).getLsbD 31 = z.msb := by
    rw [BitVec.getLsbD_setWidth, BitVec.getLsbD_sshiftRight]
    by_cases h : j + 31 < 32
    · have : j = 0 := by omega
      subst this; simp [BitVec.msb_eq_getLsbD_last]
    · simp [h]
  rw [m]
  apply BitVec.eq_of_getLsbD_eq
  intro i hi
  rw [BitVec.getLsbD_or, BitVec.getLsbD_setWidth, BitVec.getLsbD_sshiftRight, BitVec.getLsbD_ushiftRight, BitVec.getLsbD_setWidth, BitVec.getLsbD_sshiftRight]
  by_cases h : i = 31
  · subst h
    have e1 : ¬ (j + 1 + 31 < 32) := by omega
    simp only [e1, if_false]
    cases z.msb <;> simp <;> decide
  · have e3 : j + (1 + i) = j + 1 + i := by omega
    have e4 : (if z.msb then 2147483648#64 else 0#64).getLsbD i = false := by
      cases z.msb
      · simp
      · rw [if_pos rfl, getLsbD_half i hi, decide_eq_false h]
    rw [e4, e3]
    by_cases h3 : 32 ≤ i
    · have e5 : 32 ≤ 1 + i := by omega
      simp [h3, e5]
    · have e5 : ¬ 32 ≤ 1 + i := by omega
      have e6 : 1 + i < 64 := by omega
      simp [h3, e5, e6, hi]
theorem xor_andnot (x y : BitVec 64) : (x ||| y) &&& ~~~(x &&& y) = x ^^^ y := by
  apply BitVec.eq_of_getLsbD_eq
  intro i hi
  rw [BitVec.getLsbD_and, BitVec.getLsbD_or, BitVec.getLsbD_not, BitVec.getLsbD_and, BitVec.getLsbD_xor]
  cases x.getLsbD i <;> cases y.getLsbD i <;> simp [hi]
theorem low_low (z : BitVec 32) : (z.setWidth 64).setWidth 32 = z := by
  apply BitVec.eq_of_toNat_eq
  rw [BitVec.toNat_setWidth, BitVec.toNat_setWidth]; have := z.isLt; omega
theorem low_add (z : BitVec 32) (y : BitVec 64) : (z.setWidth 64 + y).setWidth 32 = z + y.setWidth 32 := by
  apply BitVec.eq_of_toNat_eq
  rw [BitVec.toNat_setWidth, BitVec.toNat_add, BitVec.toNat_add, BitVec.toNat_setWidth, BitVec.toNat_setWidth]
  have := z.isLt; have := y.isLt; omega
theorem low_neg (y : BitVec 64) : (-y).setWidth 32 = -(y.setWidth 32) := by
  apply BitVec.eq_of_toNat_eq
  rw [BitVec.toNat_setWidth, BitVec.toNat_neg, BitVec.toNat_neg, BitVec.toNat_setWidth]
  have := y.isLt; omega
theorem low_shl (z : BitVec 32) (n : Nat) : (z.setWidth 64 <<< n).setWidth 32 = z <<< n := by
  apply BitVec.eq_of_toNat_eq
  rw [BitVec.toNat_setWidth, BitVec.toNat_shiftLeft, BitVec.toNat_shiftLeft, BitVec.toNat_setWidth, Nat.shiftLeft_eq, Nat.shiftLeft_eq, Nat.mod_eq_of_lt (show z.toNat < 2 ^ 64 by have := z.isLt; omega)]
  generalize z.toNat * 2 ^ n = k
  omega
theorem low_mod (y : BitVec 64) : (y.setWidth 32).toNat % 32 = y.toNat % 32 := by rw [BitVec.toNat_setWidth]; omega
end Go.Proofs.Ytnncifcfgjphlaa

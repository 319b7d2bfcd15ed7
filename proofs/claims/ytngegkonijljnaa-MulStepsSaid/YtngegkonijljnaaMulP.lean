/- Products and quotients of words, plain. No program. -/
import Derived.WalkKit
namespace Go.Proofs.Ytngegkonijljnaa
open Go.RowKit
theorem wide_law (x y u v : Nat) (hx : x < 4294967296) (hy : y < 4294967296) (hu : u < 4294967296) (hv : v < 4294967296) :
    y * v < 18446744073709551616 ∧ x * v + y * v / 4294967296 < 18446744073709551616 ∧ y * u + (x * v + y * v / 4294967296) % 4294967296 < 18446744073709551616 ∧
    x * u + (x * v + y * v / 4294967296) / 4294967296 + (y * u + (x * v + y * v / 4294967296) % 4294967296) / 4294967296 < 18446744073709551616 ∧
    x * u + (x * v + y * v / 4294967296) / 4294967296 + (y * u + (x * v + y * v / 4294967296) % 4294967296) / 4294967296 = (x * 4294967296 + y) * (u * 4294967296 + v) / 18446744073709551616 := by
  have e : (x * 4294967296 + y) * (u * 4294967296 + v) = (x * u) * 18446744073709551616 + (x * v + y * u) * 4294967296 + y * v := by
    rw [Nat.add_mul, Nat.mul_add, Nat.mul_add]
    have e1 : x * 4294967296 * (u * 4294967296) = (x * u) * 18446744073709551616 := by
      rw [show (18446744073709551616 : Nat) = 4294967296 * 4294967296 from rfl]; ac_rfl
    have e2 : x * 4294967296 * v = (x * v) * 4294967296 := by ac_rfl
    have e3 : y * (u * 4294967296) = (y * u) * 4294967296 := by ac_rfl
    rw [e1, e2, e3]; omega
  rw [e]
  have b1 : x * u ≤ 4294967295 * 4294967295 := Nat.mul_le_mul (by omega) (by omega)
  have b2 : x * v ≤ 4294967295 * 4294967295 := Nat.mul_le_mul (by omega) (by omega)
  have b3 : y * u ≤ 4294967295 * 4294967295 := Nat.mul_le_mul (by omega) (by omega)
  have b4 : y * v ≤ 4294967295 * 4294967295 := Nat.mul_le_mul (by omega) (by omega)
  generalize x * u = p at *
  generalize x * v = q at *
  generalize y * u = r at *
  generalize y * v = s at *
  clear e
  refine ⟨by omega, by omega, by omega, by omega, by omega⟩
/-- The high half, the signs taken off: of words with signs. -/
theorem high_law (a b P sa sb : Nat) (ha : a < 2 ^ 64) (hb : b < 2 ^ 64) (hP : P = a * b) (hsa : sa = 0 ∨ sa = 1) (hsb : sb = 0 ∨ sb = 1) :
    (a + sa * (2 ^ 128 - 2 ^ 64)) * (b + sb * (2 ^ 128 - 2 ^ 64)) % 2 ^ 128 / 2 ^ 64 = (P / 2 ^ 64 + (2 ^ 64 - sa * b) + (2 ^ 64 - sb * a)) % 2 ^ 64 := by
  have hPl : P < 2 ^ 128 := by
    rw [hP]; calc a * b ≤ (2 ^ 64 - 1) * (2 ^ 64 - 1) := Nat.mul_le_mul (by omega) (by omega)
      _ < 2 ^ 128 := by decide
  rcases hsa with rfl | rfl <;> rcases hsb with rfl | rfl
  · simp only [Nat.zero_mul, Nat.add_zero, Nat.sub_zero]
    rw [← hP]; omega
  · simp only [Nat.zero_mul, Nat.add_zero, Nat.sub_zero, Nat.one_mul]
    rw [Nat.mul_add, ← hP]; omega
  · simp only [Nat.zero_mul, Nat.add_zero, Nat.sub_zero, Nat.one_mul]
    rw [Nat.add_mul, ← hP, Nat.mul_comm _ b]; omega
  · simp only [Nat.one_mul]
    rw [Nat.mul_add, Nat.add_mul, Nat.add_mul, ← hP, Nat.mul_comm _ b]; omega
/-- One digit of a quotient. -/
theorem digit_law (a b k q r : Nat) (hb : b < 18446744073709551616) (ha : a / 2 ^ (k + 1) = q * b + r) (hr : r < b) :
    (if 18446744073709551616 ≤ 2 * r + a / 2 ^ k % 2 ∨ b ≤ (2 * r + a / 2 ^ k % 2) then a / 2 ^ k = (2 * q + 1) * b + (2 * r + a / 2 ^ k % 2 - b) ∧ 2 * r + a / 2 ^ k % 2 - b < b else a / 2 ^ k = 2 * q * b + (2 * r + a / 2 ^ k % 2) ∧ 2 * r + a / 2 ^ k % 2 < b) := by
  have e : a / 2 ^ (k + 1) = a / 2 ^ k / 2 := by rw [Nat.div_div_eq_div_mul, Nat.pow_succ]
  rw [e] at ha
  generalize a / 2 ^ k = y at *
  have e2 : (2 * q + 1) * b = 2 * (q * b) + b := by rw [Nat.add_mul, Nat.one_mul, Nat.mul_assoc]
  have e3 : 2 * q * b = 2 * (q * b) := Nat.mul_assoc ..
  rw [e2, e3]
  generalize q * b = p at *
  split <;> omega
theorem tmod_cases (X Y : Int) (hY : Y ≠ 0) : X.tmod Y = 0 ∨ (X.tmod Y < 0 ∧ X < 0 ∧ Y < 0 ∧ Y < X.tmod Y) ∨ (0 < X.tmod Y ∧ 0 ≤ X ∧ 0 < Y ∧ X.tmod Y < Y) ∨ (X.tmod Y < 0 ∧ X < 0 ∧ 0 < Y ∧ -X.tmod Y < Y) ∨ (0 < X.tmod Y ∧ 0 ≤ X ∧ Y < 0 ∧ X.tmod Y < -Y) := by
  have h1 : (X.tmod Y).natAbs < Y.natAbs := by rw [Int.natAbs_tmod]; exact Nat.mod_lt _ (by omega)
  have h2 : 0 ≤ X → 0 ≤ X.tmod Y := fun h => Int.tmod_nonneg Y h
  have h3 : X < 0 → X.tmod Y ≤ 0 := fun h => by
    have : 0 ≤ (-X).tmod Y := Int.tmod_nonneg Y (by omega)
    rw [Int.neg_tmod] at this; omega
  omega
theorem ofInt_whole (x y : BitVec 64) : BitVec.ofInt 64 (x.toInt.tdiv y.toInt) * y + BitVec.ofInt 64 (x.toInt.tmod y.toInt) = x := by
  have : BitVec.ofInt 64 (x.toInt.tdiv y.toInt * y.toInt + x.toInt.tmod y.toInt) = x := by
    rw [Int.mul_comm, Int.mul_tdiv_add_tmod, BitVec.ofInt_toInt]
  rw [BitVec.ofInt_add, BitVec.ofInt_mul, BitVec.ofInt_toInt] at this
  exact this
theorem udiv_whole (x y : BitVec 64) : x / y * y + x % y = x := by
  apply BitVec.eq_of_toNat_eq
  rw [BitVec.toNat_add, BitVec.toNat_mul, BitVec.toNat_udiv, BitVec.toNat_umod]
  have h1 : x.toNat / y.toNat * y.toNat + x.toNat % y.toNat = x.toNat := Nat.div_add_mod' ..
  have := x.isLt
  omega
theorem toInt_tmod (x y : BitVec 64) : (BitVec.ofInt 64 (x.toInt.tmod y.toInt)).toInt = x.toInt.tmod y.toInt := by
  rw [BitVec.toInt_ofInt]
  have h0 := BitVec.toInt_lt (x := x)
  have h1 := BitVec.le_toInt (x := x)
  have h : (x.toInt.tmod y.toInt).natAbs ≤ x.toInt.natAbs := by rw [Int.natAbs_tmod]; exact Nat.mod_le _ _
  have h2 : 0 ≤ x.toInt → 0 ≤ x.toInt.tmod y.toInt := fun h => Int.tmod_nonneg _ h
  have h3 : x.toInt < 0 → x.toInt.tmod y.toInt ≤ 0 := fun h => by
    have : 0 ≤ (-x.toInt).tmod y.toInt := Int.tmod_nonneg _ (by omega)
    rw [Int.neg_tmod] at this; omega
  rw [Int.bmod_eq_of_le] <;> omega
theorem toInt_ne (y : BitVec 64) (h : y ≠ 0#64) : y.toInt ≠ 0 := fun e => h (BitVec.eq_of_toInt_eq (by rw [e]; rfl))
/- MulWide: the high half. -/
def hi64 (x y : BitVec 64) : BitVec 64 := BitVec.ofNat 64 (x.toNat * y.toNat / 18446744073709551616)
theorem hi64_lt (x y : BitVec 64) : x.toNat * y.toNat / 18446744073709551616 < 18446744073709551616 := by
  have h1 := x.isLt
  have h2 := y.isLt
  have : x.toNat * y.toNat < 18446744073709551616 * 18446744073709551616 := Nat.mul_lt_mul'' h1 h2
  omega
theorem hi64_comm (x y : BitVec 64) : hi64 x y = hi64 y x := by unfold hi64; rw [Nat.mul_comm]
theorem hi64_nat (x y : BitVec 64) : (hi64 x y).toNat = x.toNat * y.toNat / 18446744073709551616 := by unfold hi64; rw [BitVec.toNat_ofNat]; exact Nat.mod_eq_of_lt (hi64_lt x y)
theorem lo64_nat (x y : BitVec 64) : (x * y).toNat = x.toNat * y.toNat % 18446744073709551616 := BitVec.toNat_mul ..
/-- of a sum without carry: low and high halves. -/
theorem wide_sum (a b c : BitVec 64) (h : b.toNat ≤ (b + c).toNat) :
    a * (b + c) = a * b + a * c ∧ hi64 a (b + c) = hi64 a b + hi64 a c + (if (a * b + a * c).toNat < (a * b).toNat then 1#64 else 0#64) := by
  refine ⟨BitVec.mul_add, ?_⟩
  apply BitVec.eq_of_toNat_eq
  have hb := b.isLt
  have hc := c.isLt
  have e : (b + c).toNat = b.toNat + c.toNat := by rw [BitVec.toNat_add] at h ⊢; omega
  have l1 := hi64_lt a b
  have l2 := hi64_lt a c
  have l3 := hi64_lt a (b + c)
  rw [BitVec.toNat_add (hi64 a b + hi64 a c), BitVec.toNat_add (hi64 a b), hi64_nat, hi64_nat, hi64_nat, BitVec.toNat_add (a * b), lo64_nat, lo64_nat]
  rw [e, Nat.mul_add] at l3 ⊢
  generalize a.toNat * b.toNat = p at *
  generalize a.toNat * c.toNat = q at *
  split
  · rw [show (1#64).toNat = 1 from rfl]; omega
  · rw [show (0#64).toNat = 0 from rfl]; omega
theorem prod_step (A B k N p a : Nat) (hp : p = A * (B % 2 ^ k) % N) (ha : a = A * 2 ^ k % N) :
    (a + a) % N = A * 2 ^ (k + 1) % N ∧ (if B / 2 ^ k % 2 = 1 then (p + a) % N = A * (B % 2 ^ (k + 1)) % N else p = A * (B % 2 ^ (k + 1)) % N) := by
  subst hp ha
  have e : B % 2 ^ (k + 1) = B % 2 ^ k + 2 ^ k * (B / 2 ^ k % 2) := by rw [Nat.pow_succ, Nat.mod_mul]
  refine ⟨?_, ?_⟩
  · rw [← Nat.add_mod, ← Nat.mul_add, Nat.pow_succ, Nat.mul_two]
  · rw [e]
    split <;> rename_i h
    · rw [h, ← Nat.add_mod, ← Nat.mul_add, Nat.mul_one]
    · rw [(by omega : B / 2 ^ k % 2 = 0), Nat.mul_zero, Nat.add_zero]
end Go.Proofs.Ytngegkonijljnaa

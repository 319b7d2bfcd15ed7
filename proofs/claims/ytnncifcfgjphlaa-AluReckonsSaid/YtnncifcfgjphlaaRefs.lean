/- CONTRACTS OF THE DOCUMENT'S SMALL FUNCTIONS: bit, may, one, less, up, down, Field, Sext. -/
import Derived.Test.YtnncifcfgjphlaaAluB
namespace Go.Proofs.Ytnncifcfgjphlaa
open Go.RowKit
set_option linter.unusedVariables false
set_option maxHeartbeats 1600000
theorem one_c (b : Bool) (w : World) : Calls Try.prog 23 #[.bool b] w fun e w' => e = .returned (.int .u64 ((if b then 1#64 else 0#64).toNat : Int)) ∧ w' = w := by
  cases b
  all_goals
    go_enter Try.func23, Try.ntmps23
    go_wp2
    go_ret
    exact ⟨rfl, rfl⟩
set_option maxRecDepth 100000 in
theorem rless_c (x y : BitVec 64) (w : World) : Calls Try.prog 24 #[.int .u64 x.toNat, .int .u64 y.toNat] w fun e w' => e = .returned (.bool (decide ((x ^^^ 0x8000000000000000#64).toNat < (y ^^^ 0x8000000000000000#64).toNat))) ∧ w' = w := by
  have h1 := xor64 x 0x8000000000000000#64
  have h2 := xor64 y 0x8000000000000000#64
  rw [show (((0x8000000000000000#64).toNat : Nat) : Int) = 9223372036854775808 from by decide] at h1 h2
  generalize x ^^^ 0x8000000000000000#64 = u at *
  generalize y ^^^ 0x8000000000000000#64 = v at *
  go_enter Try.func24, Try.ntmps24
  go_wp2
  go_ret
  exact ⟨rfl, rfl⟩
set_option maxRecDepth 100000 in
theorem bit_c (x : BitVec 64) (k : Nat) (hk : k < 64) (w : World) : Calls Try.prog 27 #[.int .u64 x.toNat, .int .i64 k] w fun e w' => e = .returned (.bool (x.getLsbD k)) ∧ w' = w := by
  have h1 := shr64 x k
  have h2 := and64 (x >>> k) 1
  rw [show (((1 : BitVec 64).toNat : Nat) : Int) = 1 from by decide] at h2
  have h3 : ((((x >>> k) &&& 1).toNat : Int) == 1) = x.getLsbD k := by
    have e : (((x >>> k) &&& 1).toNat) = x.toNat / 2 ^ k % 2 := by
      rw [BitVec.toNat_and, BitVec.toNat_ushiftRight, Nat.shiftRight_eq_div_pow]
      exact Nat.and_two_pow_sub_one_eq_mod _ 1
    rw [e, BitVec.getLsbD, Nat.testBit_eq_decide_div_mod_eq]
    by_cases h : x.toNat / 2 ^ k % 2 = 1
    · rw [h]; rfl
    · rw [decide_eq_false h]; exact beq_eq_false_iff_ne.2 (by omega)
  generalize x.getLsbD k = r at *
  generalize (x >>> k) &&& 1 = v at *
  generalize x >>> k = u at *
  go_enter Try.func27, Try.ntmps27
  go_wp2
  go_ret
  exact ⟨rfl, rfl⟩
set_option maxRecDepth 100000 in
theorem may_c (hi lo : Nat) (h : lo ≤ hi) (h2 : hi ≤ 63) (w : World) : Calls Try.prog 26 #[.int .i64 hi, .int .i64 lo] w fun e w' => e = .returned (.bool true) ∧ w' = w := by
  have h3 : decide ((hi : Int) ≤ 63) = true := decide_eq_true (by omega)
  go_enter Try.func26, Try.ntmps26
  go_wp2
  go_ret
  exact ⟨rfl, rfl⟩
end Go.Proofs.Ytnncifcfgjphlaa

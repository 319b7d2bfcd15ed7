/- AluBranches: the walk. -/
import Derived.Test.YtnncifcfgjphlaaTarget
import Derived.Test.YtnncifcfgjphlaaRefs



namespace Go.Proofs.Ytnncifcfgjphlaa
open Go.RowKit
set_option linter.unusedVariables false
set_option maxHeartbeats 3200000
def RB (f : Int) (x y : BitVec 64) (r : Bool) : Prop := ∀ w : World, Calls Try.prog 15 #[.int .i64 f, .int .u64 x.toNat, .int .u64 y.toNat] w fun e w' => e = .returned (.bool r) ∧ w' = w
theorem xor_top (z : BitVec 64) : (z ^^^ 0x8000000000000000#64).toNat = (z.toNat + 9223372036854775808) % 18446744073709551616 := by
  have a1 : (z.toNat ^^^ 9223372036854775808) % 2 ^ 63 = z.toNat % 2 ^ 63 := by rw [Nat.xor_mod_two_pow]; simp
  have a2 : (z.toNat ^^^ 9223372036854775808) / 2 ^ 63 = z.toNat / 2 ^ 63 ^^^ 1 := by rw [Nat.xor_div_two_pow]
  have l := z.isLt
  rw [BitVec.toNat_xor, show (0x8000000000000000#64).toNat = 9223372036854775808 from rfl]
  rcases (by omega : z.toNat / 2 ^ 63 = 0 ∨ z.toNat / 2 ^ 63 = 1) with k | k <;> rw [k] at a2
  · rw [show (0 : Nat) ^^^ 1 = 1 from rfl] at a2; omega
  · rw [show (1 : Nat) ^^^ 1 = 0 from rfl] at a2; omega
theorem sign_less (x y : BitVec 64) : decide ((x ^^^ 0x8000000000000000#64).toNat < (y ^^^ 0x8000000000000000#64).toNat) = decide (x.toInt < y.toInt) := by
  rw [xor_top, xor_top]
  apply decide_eq_decide.2
  rw [BitVec.toInt_eq_toNat_cond, BitVec.toInt_eq_toNat_cond]
  have := x.isLt; have := y.isLt
  constructor <;> intro h <;> (repeat split at h) <;> (repeat split) <;> omega
set_option maxRecDepth 100000 in
theorem rb_0 (x y : BitVec 64) (r : Bool) (h : ((x.toNat : Int) == (y.toNat : Int)) = r) : RB 0 x y r := by
  intro w
  go_enter Try.func15, Try.ntmps15
  go_wp2
  go_ret
  first
  | exact ⟨rfl, rfl⟩
  | exact ⟨congrArg (fun n => Ending.returned (.bool n)) h, rfl⟩
set_option maxRecDepth 100000 in
theorem rb_1 (x y : BitVec 64) (r : Bool) (h : ((x.toNat : Int) != (y.toNat : Int)) = r) : RB 1 x y r := by
  intro w
  go_enter Try.func15, Try.ntmps15
  go_wp2
  go_ret
  first
  | exact ⟨rfl, rfl⟩
  | exact ⟨congrArg (fun n => Ending.returned (.bool n)) h, rfl⟩
set_option maxRecDepth 100000 in
theorem rb_4 (x y : BitVec 64) (r : Bool) (h : decide (x.toInt < y.toInt) = r) : RB 4 x y r := by
  intro w
  have L := hide (rless_c x y w)
  rw [sign_less, h] at L
  go_enter Try.func15, Try.ntmps15
  go_wp2_with fail
  refine (L.out).mono ?_
  rintro e w' ⟨rfl, rfl⟩
  simp only []
  go_wp2_with fail
  go_ret
  exact ⟨rfl, rfl⟩
set_option maxRecDepth 100000 in
theorem rb_6 (x y : BitVec 64) (r : Bool) (h : decide (x.toNat < y.toNat) = r) : RB 6 x y r := by
  intro w
  go_enter Try.func15, Try.ntmps15
  go_wp2
  go_ret
  first
  | exact ⟨rfl, rfl⟩
  | exact ⟨congrArg (fun n => Ending.returned (.bool n)) h, rfl⟩
set_option maxRecDepth 100000 in
theorem rb_7 (x y : BitVec 64) (r : Bool) (h : decide (y.toNat ≤ x.toNat) = r) : RB 7 x y r := by
  intro w
  go_enter Try.func15, Try.ntmps15
  go_wp2
  go_ret
  first
  | exact ⟨rfl, rfl⟩
  | exact ⟨congrArg (fun n => Ending.returned (.bool n)) h, rfl⟩
set_option maxRecDepth 100000 in
theorem rb_5 (x y : BitVec 64) : RB 5 x y (!decide (x.toInt < y.toInt)) := by
  intro w
  have L := hide (rless_c x y w)
  rw [sign_less] at L
  generalize decide (x.toInt < y.toInt) = r at *
  go_enter Try.func15, Try.ntmps15
  go_wp2_with fail
  refine (L.out).mono ?_
  rintro e w' ⟨rfl, rfl⟩
  simp only []
  go_wp2_with fail
  go_ret
  exact ⟨rfl, rfl⟩
set_option maxRecDepth 100000 in
theorem rb_other (f : Int) (x y : BitVec 64) (h0 : f ≠ 0) (h1 : f ≠ 1) (h4 : f ≠ 4) (h5 : f ≠ 5) (h6 : f ≠ 6) (h7 : f ≠ 7) : RB f x y false := by
  intro w
  go_enter Try.func15, Try.ntmps15
  go_wp2
  go_ret
  exact ⟨rfl, rfl⟩
end Go.Proofs.Ytnncifcfgjphlaa

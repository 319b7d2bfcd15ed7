/- AluBits, AluSums: the walks. -/
import Derived.Test.YtnncifcfgjphlaaAlu
import Derived.Below
namespace Go.Proofs.Ytnncifcfgjphlaa
open Go.RowKit
set_option linter.unusedVariables false
set_option maxHeartbeats 1600000
def B (f : Int) (x y : BitVec 64) (r : Bool) : Prop := ∀ w : World, Calls Try.prog 14 #[.int .i64 f, .int .u64 x.toNat, .int .u64 y.toNat] w fun e w' => e = .returned (.bool r) ∧ w' = w
theorem nat_beq (x y : BitVec 64) : ((x.toNat : Int) == (y.toNat : Int)) = decide (x = y) := by
  by_cases h : x = y
  · rw [h]; simp
  · rw [decide_eq_false h]; exact beq_eq_false_iff_ne.2 (fun e => h (BitVec.eq_of_toNat_eq (Int.ofNat_inj.1 e)))
set_option maxRecDepth 100000 in
theorem br_0 (x y : BitVec 64) (r : Bool) (h : ((x.toNat : Int) == (y.toNat : Int)) = r) : B 0 x y r := by
  intro w
  go_enter Try.func14, Try.ntmps14
  go_wp2
  go_ret
  first
  | exact ⟨rfl, rfl⟩
  | exact ⟨congrArg (fun n => Ending.returned (.bool n)) h, rfl⟩
set_option maxRecDepth 100000 in
theorem br_1 (x y : BitVec 64) (r : Bool) (h : ((x.toNat : Int) != (y.toNat : Int)) = r) : B 1 x y r := by
  intro w
  go_enter Try.func14, Try.ntmps14
  go_wp2
  go_ret
  first
  | exact ⟨rfl, rfl⟩
  | exact ⟨congrArg (fun n => Ending.returned (.bool n)) h, rfl⟩
set_option maxRecDepth 100000 in
theorem br_4 (x y : BitVec 64) (r : Bool) (h : decide (x.toInt < y.toInt) = r) : B 4 x y r := by
  intro w
  have hi := i64_toInt x
  have hj := i64_toInt y
  go_enter Try.func14, Try.ntmps14
  go_wp2
  go_ret
  first
  | exact ⟨rfl, rfl⟩
  | exact ⟨congrArg (fun n => Ending.returned (.bool n)) h, rfl⟩
set_option maxRecDepth 100000 in
theorem br_5 (x y : BitVec 64) (r : Bool) (h : decide (y.toInt ≤ x.toInt) = r) : B 5 x y r := by
  intro w
  have hi := i64_toInt x
  have hj := i64_toInt y
  go_enter Try.func14, Try.ntmps14
  go_wp2
  go_ret
  first
  | exact ⟨rfl, rfl⟩
  | exact ⟨congrArg (fun n => Ending.returned (.bool n)) h, rfl⟩
set_option maxRecDepth 100000 in
theorem br_6 (x y : BitVec 64) (r : Bool) (h : decide (x.toNat < y.toNat) = r) : B 6 x y r := by
  intro w
  go_enter Try.func14, Try.ntmps14
  go_wp2
  go_ret
  first
  | exact ⟨rfl, rfl⟩
  | exact ⟨congrArg (fun n => Ending.returned (.bool n)) h, rfl⟩
set_option maxRecDepth 100000 in
theorem br_7 (x y : BitVec 64) (r : Bool) (h : decide (y.toNat ≤ x.toNat) = r) : B 7 x y r := by
  intro w
  go_enter Try.func14, Try.ntmps14
  go_wp2
  go_ret
  first
  | exact ⟨rfl, rfl⟩
  | exact ⟨congrArg (fun n => Ending.returned (.bool n)) h, rfl⟩
set_option maxRecDepth 100000 in
theorem br_other (f : Int) (x y : BitVec 64) (h0 : f ≠ 0) (h1 : f ≠ 1) (h4 : f ≠ 4) (h5 : f ≠ 5) (h6 : f ≠ 6) (h7 : f ≠ 7) : B f x y false := by
  intro w
  go_enter Try.func14, Try.ntmps14
  go_wp2
  go_ret
  exact ⟨rfl, rfl⟩
set_option maxRecDepth 100000 in
theorem awake_c (w : World) : Calls Try.prog 11 #[] w fun e w' => e = .returned (.bool true) ∧ w' = w := by
  have A1 := hide (alu_0 2 3 w)
  have B1 := hide (br_0 1 1 true rfl w)
  go_enter Try.func11, Try.ntmps11
  go_wp2_with fail
  refine (A1.out).mono ?_
  rintro e w' ⟨rfl, rfl⟩
  simp only []
  go_wp2_with fail
  refine (B1.out).mono ?_
  rintro e w' ⟨rfl, rfl⟩
  simp only []
  go_wp2_with fail
  go_ret
  exact ⟨rfl, rfl⟩
theorem below_same {e : Ending} {w w' : World} (h : e = .returned (.bool true) ∧ w' = w) : e = .returned (.bool true) ∧ Below w.heap.size w w' := by
  obtain ⟨h1, rfl⟩ := h
  exact ⟨h1, Below.refl _ _⟩
end Go.Proofs.Ytnncifcfgjphlaa

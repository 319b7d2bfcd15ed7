/- CONTRACTS OF THE DOCUMENT'S Alu. -/
import Derived.Test.YtnncifcfgjphlaaRefsU
import Derived.Test.YtnncifcfgjphlaaShifts
import Derived.Test.YtnncifcfgjphlaaTarget
import Derived.Test.YtnncifcfgjphlaaBranchR
namespace Go.Proofs.Ytnncifcfgjphlaa
open Go.RowKit
set_option linter.unusedVariables false
set_option linter.unusedSimpArgs false
set_option maxHeartbeats 1600000
def RA (f : Int) (word : Bool) (x y r : BitVec 64) : Prop := ∀ w : World, Calls Try.prog 13 #[.int .i64 f, .bool word, .int .u64 x.toNat, .int .u64 y.toNat] w fun e w' => e = .returned (.int .u64 r.toNat) ∧ w' = w
theorem sub64' (x y : BitVec 64) : IntKind.u64.wrap ((x.toNat : Int) - y.toNat) = ((x + -y).toNat : Int) := by
  rw [IntKind.wrap_u64, ← BitVec.sub_eq_add_neg, BitVec.toNat_sub]; have := x.isLt; have := y.isLt; omega
theorem field31_c (x : BitVec 64) (w : World) : Calls Try.prog 20 #[.int .u64 x.toNat, .int .i64 31, .int .i64 0] w fun e w' => e = .returned (.int .u64 ((x.setWidth 32).setWidth 64).toNat) ∧ w' = w := by
  have := field_c x 31 0 (by omega) (by omega) w
  rw [field_low] at this
  exact this
set_option maxRecDepth 100000 in
theorem ra_0 (x y : BitVec 64) : RA 0 false x y (x + y) := by
  intro w
  have hn0 : ((y.toNat : Int) % 64) = ((y.toNat % 64 : Nat) : Int) := by omega
  have hnl : y.toNat % 64 < 64 := by omega
  have hn1 : wrap64 ((y.toNat % 64 : Nat) : Int) = ((y.toNat % 64 : Nat) : Int) := by unfold wrap64; omega
  have hn2 : IntKind.i64.wrap ((y.toNat % 64 : Nat) : Int) = ((y.toNat % 64 : Nat) : Int) := by rw [IntKind.wrap_i64]; omega
  generalize y.toNat % 64 = n at *
  have e1 := add64 x y
  generalize x + y = r at *
  have SX := hide (sext64_c r)
  go_enter Try.func13, Try.ntmps13
  go_wp2_with fail
  refine (SX.out _).mono ?_
  rintro e w' ⟨rfl, rfl⟩
  simp only []
  go_wp2_with fail
  go_ret
  exact ⟨rfl, rfl⟩
set_option maxRecDepth 100000 in
theorem ra_8 (x y : BitVec 64) : RA 8 false x y (x + -y) := by
  intro w
  have hn0 : ((y.toNat : Int) % 64) = ((y.toNat % 64 : Nat) : Int) := by omega
  have hnl : y.toNat % 64 < 64 := by omega
  have hn1 : wrap64 ((y.toNat % 64 : Nat) : Int) = ((y.toNat % 64 : Nat) : Int) := by unfold wrap64; omega
  have hn2 : IntKind.i64.wrap ((y.toNat % 64 : Nat) : Int) = ((y.toNat % 64 : Nat) : Int) := by rw [IntKind.wrap_i64]; omega
  generalize y.toNat % 64 = n at *
  have e1 := sub64' x y
  generalize x + -y = r at *
  have SX := hide (sext64_c r)
  go_enter Try.func13, Try.ntmps13
  go_wp2_with fail
  refine (SX.out _).mono ?_
  rintro e w' ⟨rfl, rfl⟩
  simp only []
  go_wp2_with fail
  go_ret
  exact ⟨rfl, rfl⟩
set_option maxRecDepth 100000 in
theorem ra_4 (x y : BitVec 64) : RA 4 false x y (x ^^^ y) := by
  intro w
  have hn0 : ((y.toNat : Int) % 64) = ((y.toNat % 64 : Nat) : Int) := by omega
  have hnl : y.toNat % 64 < 64 := by omega
  have hn1 : wrap64 ((y.toNat % 64 : Nat) : Int) = ((y.toNat % 64 : Nat) : Int) := by unfold wrap64; omega
  have hn2 : IntKind.i64.wrap ((y.toNat % 64 : Nat) : Int) = ((y.toNat % 64 : Nat) : Int) := by rw [IntKind.wrap_i64]; omega
  generalize y.toNat % 64 = n at *
  have e1 := or64 x y
  have e2 := and64 x y
  have e3 := andnot64 (x ||| y) (x &&& y)
  rw [xor_andnot] at e3
  generalize x ^^^ y = r at *
  generalize x ||| y = r1 at *
  generalize x &&& y = r2 at *
  have SX := hide (sext64_c r)
  go_enter Try.func13, Try.ntmps13
  go_wp2_with fail
  refine (SX.out _).mono ?_
  rintro e w' ⟨rfl, rfl⟩
  simp only []
  go_wp2_with fail
  go_ret
  exact ⟨rfl, rfl⟩
set_option maxRecDepth 100000 in
theorem ra_6 (x y : BitVec 64) : RA 6 false x y (x ||| y) := by
  intro w
  have hn0 : ((y.toNat : Int) % 64) = ((y.toNat % 64 : Nat) : Int) := by omega
  have hnl : y.toNat % 64 < 64 := by omega
  have hn1 : wrap64 ((y.toNat % 64 : Nat) : Int) = ((y.toNat % 64 : Nat) : Int) := by unfold wrap64; omega
  have hn2 : IntKind.i64.wrap ((y.toNat % 64 : Nat) : Int) = ((y.toNat % 64 : Nat) : Int) := by rw [IntKind.wrap_i64]; omega
  generalize y.toNat % 64 = n at *
  have e1 := or64 x y
  generalize x ||| y = r at *
  have SX := hide (sext64_c r)
  go_enter Try.func13, Try.ntmps13
  go_wp2_with fail
  refine (SX.out _).mono ?_
  rintro e w' ⟨rfl, rfl⟩
  simp only []
  go_wp2_with fail
  go_ret
  exact ⟨rfl, rfl⟩
set_option maxRecDepth 100000 in
theorem ra_7 (x y : BitVec 64) : RA 7 false x y (x &&& y) := by
  intro w
  have hn0 : ((y.toNat : Int) % 64) = ((y.toNat % 64 : Nat) : Int) := by omega
  have hnl : y.toNat % 64 < 64 := by omega
  have hn1 : wrap64 ((y.toNat % 64 : Nat) : Int) = ((y.toNat % 64 : Nat) : Int) := by unfold wrap64; omega
  have hn2 : IntKind.i64.wrap ((y.toNat % 64 : Nat) : Int) = ((y.toNat % 64 : Nat) : Int) := by rw [IntKind.wrap_i64]; omega
  generalize y.toNat % 64 = n at *
  have e1 := and64 x y
  generalize x &&& y = r at *
  have SX := hide (sext64_c r)
  go_enter Try.func13, Try.ntmps13
  go_wp2_with fail
  refine (SX.out _).mono ?_
  rintro e w' ⟨rfl, rfl⟩
  simp only []
  go_wp2_with fail
  go_ret
  exact ⟨rfl, rfl⟩
set_option maxRecDepth 100000 in
theorem ra_1 (x y : BitVec 64) : RA 1 false x y (x <<< (y.toNat % 64)) := by
  intro w
  have hn0 : ((y.toNat : Int) % 64) = ((y.toNat % 64 : Nat) : Int) := by omega
  have hnl : y.toNat % 64 < 64 := by omega
  have hn1 : wrap64 ((y.toNat % 64 : Nat) : Int) = ((y.toNat % 64 : Nat) : Int) := by unfold wrap64; omega
  have hn2 : IntKind.i64.wrap ((y.toNat % 64 : Nat) : Int) = ((y.toNat % 64 : Nat) : Int) := by rw [IntKind.wrap_i64]; omega
  have U := hide (up_c x (y.toNat % 64) hnl)
  generalize x <<< (y.toNat % 64) = r at *
  generalize y.toNat % 64 = n at *
  have SX := hide (sext64_c r)
  go_enter Try.func13, Try.ntmps13
  go_wp2_with fail
  refine (U.out _).mono ?_
  rintro e w' ⟨rfl, rfl⟩
  simp only []
  go_wp2_with fail
  refine (SX.out _).mono ?_
  rintro e w' ⟨rfl, rfl⟩
  simp only []
  go_wp2_with fail
  go_ret
  exact ⟨rfl, rfl⟩
set_option maxRecDepth 100000 in
theorem ra_5 (x y : BitVec 64) : RA 5 false x y (x >>> (y.toNat % 64)) := by
  intro w
  have hn0 : ((y.toNat : Int) % 64) = ((y.toNat % 64 : Nat) : Int) := by omega
  have hnl : y.toNat % 64 < 64 := by omega
  have hn1 : wrap64 ((y.toNat % 64 : Nat) : Int) = ((y.toNat % 64 : Nat) : Int) := by unfold wrap64; omega
  have hn2 : IntKind.i64.wrap ((y.toNat % 64 : Nat) : Int) = ((y.toNat % 64 : Nat) : Int) := by rw [IntKind.wrap_i64]; omega
  have U := hide (down_64u (fun j => x >>> j) (sq_64u x) (y.toNat % 64) hnl)
  simp only [BitVec.ushiftRight_zero] at U
  generalize x >>> (y.toNat % 64) = r at *
  generalize y.toNat % 64 = n at *
  have SX := hide (sext64_c r)
  go_enter Try.func13, Try.ntmps13
  go_wp2_with fail
  refine (U.out _).mono ?_
  rintro e w' ⟨rfl, rfl⟩
  simp only []
  go_wp2_with fail
  refine (SX.out _).mono ?_
  rintro e w' ⟨rfl, rfl⟩
  simp only []
  go_wp2_with fail
  go_ret
  exact ⟨rfl, rfl⟩
set_option maxRecDepth 100000 in
theorem ra_13 (x y : BitVec 64) : RA 13 false x y (x.sshiftRight (y.toNat % 64)) := by
  intro w
  have hn0 : ((y.toNat : Int) % 64) = ((y.toNat % 64 : Nat) : Int) := by omega
  have hnl : y.toNat % 64 < 64 := by omega
  have hn1 : wrap64 ((y.toNat % 64 : Nat) : Int) = ((y.toNat % 64 : Nat) : Int) := by unfold wrap64; omega
  have hn2 : IntKind.i64.wrap ((y.toNat % 64 : Nat) : Int) = ((y.toNat % 64 : Nat) : Int) := by rw [IntKind.wrap_i64]; omega
  have U := hide (down_64s (fun j => x.sshiftRight j) (sq_64s x) (y.toNat % 64) hnl)
  simp only [BitVec.sshiftRight_zero] at U
  generalize x.sshiftRight (y.toNat % 64) = r at *
  generalize y.toNat % 64 = n at *
  have SX := hide (sext64_c r)
  go_enter Try.func13, Try.ntmps13
  go_wp2_with fail
  refine (U.out _).mono ?_
  rintro e w' ⟨rfl, rfl⟩
  simp only []
  go_wp2_with fail
  refine (SX.out _).mono ?_
  rintro e w' ⟨rfl, rfl⟩
  simp only []
  go_wp2_with fail
  go_ret
  exact ⟨rfl, rfl⟩
set_option maxRecDepth 100000 in
theorem ra_2 (x y : BitVec 64) : RA 2 false x y (if x.toInt < y.toInt then 1 else 0) := by
  intro w
  have hn0 : ((y.toNat : Int) % 64) = ((y.toNat % 64 : Nat) : Int) := by omega
  have hnl : y.toNat % 64 < 64 := by omega
  have hn1 : wrap64 ((y.toNat % 64 : Nat) : Int) = ((y.toNat % 64 : Nat) : Int) := by unfold wrap64; omega
  have hn2 : IntKind.i64.wrap ((y.toNat % 64 : Nat) : Int) = ((y.toNat % 64 : Nat) : Int) := by rw [IntKind.wrap_i64]; omega
  generalize y.toNat % 64 = n at *
  have L := hide (rless_c x y)
  rw [sign_less] at L
  have O := hide (one_c (decide (x.toInt < y.toInt)))
  rw [show (if decide (x.toInt < y.toInt) = true then 1#64 else 0#64) = if x.toInt < y.toInt then 1 else 0 from by simp] at O
  generalize (if x.toInt < y.toInt then (1 : BitVec 64) else 0) = r at *
  generalize decide (x.toInt < y.toInt) = b at *
  have SX := hide (sext64_c r)
  go_enter Try.func13, Try.ntmps13
  go_wp2_with fail
  refine (L.out _).mono ?_
  rintro e w' ⟨rfl, rfl⟩
  simp only []
  go_wp2_with fail
  refine (O.out _).mono ?_
  rintro e w' ⟨rfl, rfl⟩
  simp only []
  go_wp2_with fail
  refine (SX.out _).mono ?_
  rintro e w' ⟨rfl, rfl⟩
  simp only []
  go_wp2_with fail
  go_ret
  exact ⟨rfl, rfl⟩
set_option maxRecDepth 100000 in
theorem ra_3 (x y : BitVec 64) : RA 3 false x y (if x.toNat < y.toNat then 1 else 0) := by
  intro w
  have hn0 : ((y.toNat : Int) % 64) = ((y.toNat % 64 : Nat) : Int) := by omega
  have hnl : y.toNat % 64 < 64 := by omega
  have hn1 : wrap64 ((y.toNat % 64 : Nat) : Int) = ((y.toNat % 64 : Nat) : Int) := by unfold wrap64; omega
  have hn2 : IntKind.i64.wrap ((y.toNat % 64 : Nat) : Int) = ((y.toNat % 64 : Nat) : Int) := by rw [IntKind.wrap_i64]; omega
  generalize y.toNat % 64 = n at *
  have O := hide (one_c (decide (x.toNat < y.toNat)))
  rw [show (if decide (x.toNat < y.toNat) = true then 1#64 else 0#64) = if x.toNat < y.toNat then 1 else 0 from by simp] at O
  generalize (if x.toNat < y.toNat then (1 : BitVec 64) else 0) = r at *
  have SX := hide (sext64_c r)
  go_enter Try.func13, Try.ntmps13
  go_wp2_with fail
  refine (O.out _).mono ?_
  rintro e w' ⟨rfl, rfl⟩
  simp only []
  go_wp2_with fail
  refine (SX.out _).mono ?_
  rintro e w' ⟨rfl, rfl⟩
  simp only []
  go_wp2_with fail
  go_ret
  exact ⟨rfl, rfl⟩
set_option maxRecDepth 100000 in
theorem ra_other (f : Int) (x y : BitVec 64) (h8 : f ≠ 8) (h0 : f ≠ 0) (h1 : f ≠ 1) (h5 : f ≠ 5) (h13 : f ≠ 13) (h2 : f ≠ 2) (h3 : f ≠ 3) (h4 : f ≠ 4) (h6 : f ≠ 6) (h7 : f ≠ 7) : RA f false x y 0 := by
  intro w
  have hn0 : ((y.toNat : Int) % 64) = ((y.toNat % 64 : Nat) : Int) := by omega
  have hnl : y.toNat % 64 < 64 := by omega
  have hn1 : wrap64 ((y.toNat % 64 : Nat) : Int) = ((y.toNat % 64 : Nat) : Int) := by unfold wrap64; omega
  have hn2 : IntKind.i64.wrap ((y.toNat % 64 : Nat) : Int) = ((y.toNat % 64 : Nat) : Int) := by rw [IntKind.wrap_i64]; omega
  generalize y.toNat % 64 = n at *
  have SX := hide (sext64_c 0#64)
  rw [show (((0#64).toNat : Nat) : Int) = 0 from rfl] at SX
  go_enter Try.func13, Try.ntmps13
  go_wp2_with fail
  refine (SX.out _).mono ?_
  rintro e w' ⟨rfl, rfl⟩
  simp only []
  go_wp2_with fail
  go_ret
  exact ⟨rfl, rfl⟩
end Go.Proofs.Ytnncifcfgjphlaa

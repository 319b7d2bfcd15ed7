/- CONTRACTS OF THE DOCUMENT'S Alu. -/
import Derived.Test.YtnncifcfgjphlaaRefsU
import Derived.Test.YtnncifcfgjphlaaShifts
import Derived.Test.YtnncifcfgjphlaaTarget
import Derived.Test.YtnncifcfgjphlaaBranchR
import Derived.Test.YtnncifcfgjphlaaAluRefA
namespace Go.Proofs.Ytnncifcfgjphlaa
open Go.RowKit
set_option linter.unusedVariables false
set_option linter.unusedSimpArgs false
set_option maxHeartbeats 1600000
set_option maxRecDepth 100000 in
theorem raw_0 (x y : BitVec 64) : RA 0 true x y ((x.setWidth 32 + y.setWidth 32).signExtend 64) := by
  intro w
  have hn0 : ((y.toNat : Int) % 32) = ((y.toNat % 32 : Nat) : Int) := by omega
  have hnl : y.toNat % 32 < 64 := by omega
  have hn1 : wrap64 ((y.toNat % 32 : Nat) : Int) = ((y.toNat % 32 : Nat) : Int) := by unfold wrap64; omega
  have hn2 : IntKind.i64.wrap ((y.toNat % 32 : Nat) : Int) = ((y.toNat % 32 : Nat) : Int) := by rw [IntKind.wrap_i64]; omega
  generalize y.toNat % 32 = n at *
  have F := hide (field31_c x)
  have e1 := add64 ((x.setWidth 32).setWidth 64) y
  have hv := low_add (x.setWidth 32) y
  generalize (x.setWidth 32).setWidth 64 + y = v at *
  generalize (x.setWidth 32).setWidth 64 = xl at *
  have SX := hide (sext32_c v)
  rw [hv] at SX
  clear hv
  generalize (x.setWidth 32 + y.setWidth 32).signExtend 64 = r at *
  go_enter Try.func13, Try.ntmps13
  go_wp2_with fail
  refine (F.out _).mono ?_
  rintro e w' ⟨rfl, rfl⟩
  simp only []
  go_wp2_with fail
  refine (SX.out _).mono ?_
  rintro e w' ⟨rfl, rfl⟩
  simp only []
  go_wp2_with fail
  go_ret
  exact ⟨rfl, rfl⟩
set_option maxRecDepth 100000 in
theorem raw_8 (x y : BitVec 64) : RA 8 true x y ((x.setWidth 32 + -(y.setWidth 32)).signExtend 64) := by
  intro w
  have hn0 : ((y.toNat : Int) % 32) = ((y.toNat % 32 : Nat) : Int) := by omega
  have hnl : y.toNat % 32 < 64 := by omega
  have hn1 : wrap64 ((y.toNat % 32 : Nat) : Int) = ((y.toNat % 32 : Nat) : Int) := by unfold wrap64; omega
  have hn2 : IntKind.i64.wrap ((y.toNat % 32 : Nat) : Int) = ((y.toNat % 32 : Nat) : Int) := by rw [IntKind.wrap_i64]; omega
  generalize y.toNat % 32 = n at *
  have F := hide (field31_c x)
  have e1 := sub64' ((x.setWidth 32).setWidth 64) y
  have hv := low_add (x.setWidth 32) (-y)
  rw [low_neg] at hv
  generalize (x.setWidth 32).setWidth 64 + -y = v at *
  generalize (x.setWidth 32).setWidth 64 = xl at *
  have SX := hide (sext32_c v)
  rw [hv] at SX
  clear hv
  generalize (x.setWidth 32 + -(y.setWidth 32)).signExtend 64 = r at *
  go_enter Try.func13, Try.ntmps13
  go_wp2_with fail
  refine (F.out _).mono ?_
  rintro e w' ⟨rfl, rfl⟩
  simp only []
  go_wp2_with fail
  refine (SX.out _).mono ?_
  rintro e w' ⟨rfl, rfl⟩
  simp only []
  go_wp2_with fail
  go_ret
  exact ⟨rfl, rfl⟩
set_option maxRecDepth 100000 in
theorem raw_1 (x y : BitVec 64) : RA 1 true x y ((x.setWidth 32 <<< ((y.setWidth 32).toNat % 32)).signExtend 64) := by
  intro w
  have hn0 : ((y.toNat : Int) % 32) = ((y.toNat % 32 : Nat) : Int) := by omega
  have hnl : y.toNat % 32 < 64 := by omega
  have hn1 : wrap64 ((y.toNat % 32 : Nat) : Int) = ((y.toNat % 32 : Nat) : Int) := by unfold wrap64; omega
  have hn2 : IntKind.i64.wrap ((y.toNat % 32 : Nat) : Int) = ((y.toNat % 32 : Nat) : Int) := by rw [IntKind.wrap_i64]; omega
  have F := hide (field31_c x)
  have U := hide (up_c ((x.setWidth 32).setWidth 64) (y.toNat % 32) hnl)
  have hv := low_shl (x.setWidth 32) (y.toNat % 32)
  rw [low_mod]
  generalize y.toNat % 32 = n at *
  generalize (x.setWidth 32).setWidth 64 <<< n = v at *
  generalize (x.setWidth 32).setWidth 64 = xl at *
  have SX := hide (sext32_c v)
  rw [hv] at SX
  clear hv
  generalize (x.setWidth 32 <<< n).signExtend 64 = r at *
  go_enter Try.func13, Try.ntmps13
  go_wp2_with fail
  refine (F.out _).mono ?_
  rintro e w' ⟨rfl, rfl⟩
  simp only []
  go_wp2_with fail
  refine (U.out _).mono ?_
  rintro e w' ⟨rfl, rfl⟩
  simp only []
  go_wp2_with fail
  refine (SX.out _).mono ?_
  rintro e w' ⟨rfl, rfl⟩
  simp only []
  go_wp2_with fail
  go_ret
  exact ⟨rfl, rfl⟩
set_option maxRecDepth 100000 in
theorem raw_5 (x y : BitVec 64) : RA 5 true x y ((x.setWidth 32 >>> ((y.setWidth 32).toNat % 32)).signExtend 64) := by
  intro w
  have hn0 : ((y.toNat : Int) % 32) = ((y.toNat % 32 : Nat) : Int) := by omega
  have hnl : y.toNat % 32 < 64 := by omega
  have hn1 : wrap64 ((y.toNat % 32 : Nat) : Int) = ((y.toNat % 32 : Nat) : Int) := by unfold wrap64; omega
  have hn2 : IntKind.i64.wrap ((y.toNat % 32 : Nat) : Int) = ((y.toNat % 32 : Nat) : Int) := by rw [IntKind.wrap_i64]; omega
  have F := hide (field31_c x)
  have U := hide (down_32u (fun j => (x.setWidth 32 >>> j).setWidth 64) (sq_32u (x.setWidth 32)) (y.toNat % 32) hnl)
  simp only [BitVec.ushiftRight_zero] at U
  have hv := low_low (x.setWidth 32 >>> (y.toNat % 32))
  rw [low_mod]
  generalize y.toNat % 32 = n at *
  generalize (x.setWidth 32 >>> n).setWidth 64 = v at *
  generalize (x.setWidth 32).setWidth 64 = xl at *
  have SX := hide (sext32_c v)
  rw [hv] at SX
  clear hv
  generalize (x.setWidth 32 >>> n).signExtend 64 = r at *
  go_enter Try.func13, Try.ntmps13
  go_wp2_with fail
  refine (F.out _).mono ?_
  rintro e w' ⟨rfl, rfl⟩
  simp only []
  go_wp2_with fail
  refine (U.out _).mono ?_
  rintro e w' ⟨rfl, rfl⟩
  simp only []
  go_wp2_with fail
  refine (SX.out _).mono ?_
  rintro e w' ⟨rfl, rfl⟩
  simp only []
  go_wp2_with fail
  go_ret
  exact ⟨rfl, rfl⟩
set_option maxRecDepth 100000 in
theorem raw_13 (x y : BitVec 64) : RA 13 true x y (((x.setWidth 32).sshiftRight ((y.setWidth 32).toNat % 32)).signExtend 64) := by
  intro w
  have hn0 : ((y.toNat : Int) % 32) = ((y.toNat % 32 : Nat) : Int) := by omega
  have hnl : y.toNat % 32 < 64 := by omega
  have hn1 : wrap64 ((y.toNat % 32 : Nat) : Int) = ((y.toNat % 32 : Nat) : Int) := by unfold wrap64; omega
  have hn2 : IntKind.i64.wrap ((y.toNat % 32 : Nat) : Int) = ((y.toNat % 32 : Nat) : Int) := by rw [IntKind.wrap_i64]; omega
  have F := hide (field31_c x)
  have U := hide (down_32s (fun j => ((x.setWidth 32).sshiftRight j).setWidth 64) (sq_32s (x.setWidth 32)) (y.toNat % 32) hnl)
  simp only [BitVec.sshiftRight_zero] at U
  have hv := low_low ((x.setWidth 32).sshiftRight (y.toNat % 32))
  rw [low_mod]
  generalize y.toNat % 32 = n at *
  generalize ((x.setWidth 32).sshiftRight n).setWidth 64 = v at *
  generalize (x.setWidth 32).setWidth 64 = xl at *
  have SX := hide (sext32_c v)
  rw [hv] at SX
  clear hv
  generalize ((x.setWidth 32).sshiftRight n).signExtend 64 = r at *
  go_enter Try.func13, Try.ntmps13
  go_wp2_with fail
  refine (F.out _).mono ?_
  rintro e w' ⟨rfl, rfl⟩
  simp only []
  go_wp2_with fail
  refine (U.out _).mono ?_
  rintro e w' ⟨rfl, rfl⟩
  simp only []
  go_wp2_with fail
  refine (SX.out _).mono ?_
  rintro e w' ⟨rfl, rfl⟩
  simp only []
  go_wp2_with fail
  go_ret
  exact ⟨rfl, rfl⟩
set_option maxRecDepth 100000 in
theorem raw_other (f : Int) (x y : BitVec 64) (h8 : f ≠ 8) (h0 : f ≠ 0) (h1 : f ≠ 1) (h5 : f ≠ 5) (h13 : f ≠ 13) : RA f true x y 0 := by
  intro w
  have F := hide (field31_c x)
  generalize (x.setWidth 32).setWidth 64 = xl at *
  go_enter Try.func13, Try.ntmps13
  go_wp2_with fail
  refine (F.out _).mono ?_
  rintro e w' ⟨rfl, rfl⟩
  simp only []
  go_wp2_with fail
  go_ret
  exact ⟨rfl, rfl⟩
end Go.Proofs.Ytnncifcfgjphlaa

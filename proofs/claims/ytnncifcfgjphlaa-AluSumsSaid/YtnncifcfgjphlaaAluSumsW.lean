/- AluSums: the walk. -/
import Derived.Test.YtnncifcfgjphlaaAluB
namespace Go.Proofs.Ytnncifcfgjphlaa
open Go.RowKit
set_option linter.unusedVariables false
set_option maxHeartbeats 1600000
theorem add_sub (x y : BitVec 64) : x + y + -y = x := by rw [BitVec.add_assoc, BitVec.add_right_neg, BitVec.add_zero]
theorem low_sext (x : BitVec 32) : (x.signExtend 64).setWidth 32 = x := by
  ext i hi; simp [BitVec.getLsbD_signExtend, hi]; intro h; omega
theorem i64_sext (r : BitVec 32) : wrap64 r.toInt = (r.signExtend 64).toInt := by
  rw [← sext_toInt]
  have h1 := BitVec.le_toInt r
  have h2 := BitVec.toInt_lt (x := r)
  simp only [wrap64]; omega
theorem add_sub32 (x y : BitVec 32) : x + y + -y = x := by rw [BitVec.add_assoc, BitVec.add_right_neg, BitVec.add_zero]
set_option maxRecDepth 100000 in
theorem sums_walk (a b : Int) (ha : (Lit.int .u64 a).wf = true) (hb : (Lit.int .u64 b).wf = true) (c : Bool) (W : World) :
    Calls Try.prog 4 #[.int .u64 a, .int .u64 b, .bool c] W fun e W' => e = .returned (.bool true) ∧ W' = W := by
  obtain ⟨x, rfl⟩ := of_u64 ha
  obtain ⟨y, rfl⟩ := of_u64 hb
  clear ha hb
  cases c
  · have hX := alu_0 x y
    have hY := alu_8 (x + y) y
    have hZ := alu_0 y x
    rw [BitVec.add_comm] at hZ
    rw [add_sub] at hY
    generalize x + y = ss at *
    replace hX := hide hX
    replace hY := hide hY
    replace hZ := hide hZ
    have t1 : ((x.toNat : Int) == x.toNat) = true := beq_self_eq_true _
    have t2 : ((ss.toNat : Int) == ss.toNat) = true := beq_self_eq_true _
    go_enter Try.func4, Try.ntmps4
    go_wp2_with fail
    refine (hX.out _).mono ?_
    rintro e w' ⟨rfl, rfl⟩
    simp only []
    go_wp2_with fail
    refine (hY.out _).mono ?_
    rintro e w' ⟨rfl, rfl⟩
    simp only []
    go_wp2_with fail
    refine (awake_c _).mono ?_
    rintro e w' ⟨rfl, rfl⟩
    simp only []
    go_wp2_with fail
    refine (hZ.out _).mono ?_
    rintro e w' ⟨rfl, rfl⟩
    simp only []
    go_wp2_with fail
    go_ret
    exact ⟨rfl, rfl⟩
  · have hX := aluw_0 x y
    have hZ := aluw_0 y x
    rw [BitVec.add_comm] at hZ
    have hY := aluw_8 ((x.setWidth 32 + y.setWidth 32).signExtend 64) y
    have e0 := u32_low' x
    rw [low_sext, add_sub32] at hY
    have e1 := u32_low' ((x.setWidth 32).signExtend 64)
    rw [low_sext] at e1
    generalize x.setWidth 32 = xs at *
    generalize xs + y.setWidth 32 = ss at *
    have e2 := u32_low' (ss.signExtend 64)
    rw [low_sext] at e2
    have e3 := i32_toInt ss
    have e4 := i64_sext ss
    have e5 := i64_toInt (ss.signExtend 64)
    generalize ss.signExtend 64 = sx at *
    generalize xs.signExtend 64 = dx at *
    replace hX := hide hX
    replace hY := hide hY
    replace hZ := hide hZ
    have t1 : ((xs.toNat : Int) == xs.toNat) = true := beq_self_eq_true _
    have t2 : ((sx.toNat : Int) == sx.toNat) = true := beq_self_eq_true _
    have t3 : ((sx.toInt : Int) == sx.toInt) = true := beq_self_eq_true _
    go_enter Try.func4, Try.ntmps4
    go_wp2_with fail
    refine (hX.out _).mono ?_
    rintro e w' ⟨rfl, rfl⟩
    simp only []
    go_wp2_with fail
    refine (hY.out _).mono ?_
    rintro e w' ⟨rfl, rfl⟩
    simp only []
    go_wp2_with fail
    refine (awake_c _).mono ?_
    rintro e w' ⟨rfl, rfl⟩
    simp only []
    go_wp2_with fail
    refine (hZ.out _).mono ?_
    rintro e w' ⟨rfl, rfl⟩
    simp only []
    go_wp2_with fail
    go_ret
    exact ⟨rfl, rfl⟩
theorem sums_w (W : World) (a : Int) (ha : (Lit.int .u64 a).wf = true) (b : Int) (hb : (Lit.int .u64 b).wf = true) (c : Bool) :
    Calls Try.prog 4 #[.int .u64 a, .int .u64 b, .bool c] W fun e W' => e = .returned (.bool true) ∧ Below W.heap.size W W' := (sums_walk a b ha hb c W).mono fun _ _ h => below_same h
end Go.Proofs.Ytnncifcfgjphlaa

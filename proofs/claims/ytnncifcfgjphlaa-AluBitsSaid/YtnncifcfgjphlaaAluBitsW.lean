/- AluBits, AluSums: the walks. -/
import Derived.Test.YtnncifcfgjphlaaAluB
namespace Go.Proofs.Ytnncifcfgjphlaa
open Go.RowKit
set_option linter.unusedVariables false
set_option maxHeartbeats 1600000
theorem xor_and (x y : BitVec 64) : (x ^^^ y) &&& (x &&& y) = 0 := by
  ext i hi; simp; cases x[i] <;> cases y[i] <;> simp
theorem xor_or (x y : BitVec 64) : (x ^^^ y) ||| (x &&& y) = x ||| y := by
  ext i hi; simp; cases x[i] <;> cases y[i] <;> rfl
theorem xor_xor (x y : BitVec 64) : (x ^^^ y) ^^^ y = x := by
  ext i hi; simp
theorem xor_add (x y : BitVec 64) : (x ^^^ y) + (x &&& y) = x ||| y := by
  rw [BitVec.add_eq_or_of_and_eq_zero _ _ (xor_and x y), xor_or]
theorem or_add (x y : BitVec 64) : (x ||| y) + (x &&& y) = x + y := by
  have h1 : x ||| y = x + (~~~x &&& y) := by
    rw [BitVec.add_eq_or_of_and_eq_zero]
    · ext i hi; simp; cases x[i] <;> cases y[i] <;> rfl
    · ext i hi; simp; cases x[i] <;> simp
  have h2 : (~~~x &&& y) + (x &&& y) = y := by
    rw [BitVec.add_eq_or_of_and_eq_zero]
    · ext i hi; simp; cases x[i] <;> cases y[i] <;> rfl
    · ext i hi; simp; cases x[i] <;> simp
  rw [h1, BitVec.add_assoc, h2]
set_option maxRecDepth 100000 in
theorem bits_walk (a b : Int) (ha : (Lit.int .u64 a).wf = true) (hb : (Lit.int .u64 b).wf = true) (W : World) :
    Calls Try.prog 7 #[.int .u64 a, .int .u64 b] W fun e W' => e = .returned (.bool true) ∧ W' = W := by
  obtain ⟨x, rfl⟩ := of_u64 ha
  obtain ⟨y, rfl⟩ := of_u64 hb
  have hX := alu_4 x y
  have hO := alu_6 x y
  have hN := alu_7 x y
  have hX2 := alu_4 (x ^^^ y) y
  rw [xor_xor] at hX2
  have e1 : bits .and .u64 ((x ^^^ y).toNat : Int) ((x &&& y).toNat : Int) = 0 := by rw [and64, xor_and]; rfl
  have e2 : bits .or .u64 ((x ^^^ y).toNat : Int) ((x &&& y).toNat : Int) = ((x ||| y).toNat : Int) := by rw [or64, xor_or]
  have e3 : IntKind.u64.wrap (((x ^^^ y).toNat : Int) + ((x &&& y).toNat : Int)) = ((x ||| y).toNat : Int) := by rw [add64, xor_add]
  have e4 : IntKind.u64.wrap (((x ||| y).toNat : Int) + ((x &&& y).toNat : Int)) = ((x + y).toNat : Int) := by rw [add64, or_add]
  have e5 := add64 x y
  generalize x ^^^ y = xx at *
  generalize x ||| y = oo at *
  generalize x &&& y = nn at *
  generalize x + y = ss at *
  replace hX := hide hX
  replace hO := hide hO
  replace hN := hide hN
  replace hX2 := hide hX2
  have t1 : ((xx.toNat : Int) == xx.toNat) = true := beq_self_eq_true _
  go_enter Try.func7, Try.ntmps7
  go_wp2_with fail
  refine (hX.out _).mono ?_
  rintro e w' ⟨rfl, rfl⟩
  simp only []
  go_wp2_with fail
  refine (hO.out _).mono ?_
  rintro e w' ⟨rfl, rfl⟩
  simp only []
  go_wp2_with fail
  refine (hN.out _).mono ?_
  rintro e w' ⟨rfl, rfl⟩
  simp only []
  go_wp2_with fail
  refine (awake_c _).mono ?_
  rintro e w' ⟨rfl, rfl⟩
  simp only []
  go_wp2_with fail
  refine (hX2.out _).mono ?_
  rintro e w' ⟨rfl, rfl⟩
  simp only []
  go_wp2_with fail
  go_ret
  exact ⟨rfl, rfl⟩
theorem bits_w (W : World) (a : Int) (ha : (Lit.int .u64 a).wf = true) (b : Int) (hb : (Lit.int .u64 b).wf = true) :
    Calls Try.prog 7 #[.int .u64 a, .int .u64 b] W fun e W' => e = .returned (.bool true) ∧ Below W.heap.size W W' := (bits_walk a b ha hb W).mono fun _ _ h => below_same h
end Go.Proofs.Ytnncifcfgjphlaa

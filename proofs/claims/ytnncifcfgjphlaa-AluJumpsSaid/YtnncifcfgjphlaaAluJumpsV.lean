/- AluJumps: the walk, over the words that come in. -/
import Derived.Test.YtnncifcfgjphlaaAluJumpsW
namespace Go.Proofs.Ytnncifcfgjphlaa
open Go.RowKit
set_option linter.unusedVariables false
theorem jumps_w (W : World) (pc : Int) (hpc : (Lit.int .u64 pc).wf = true) (im : Int) (him : (Lit.int .u64 im).wf = true) (a : Int) (ha : (Lit.int .u64 a).wf = true) :
    Calls Try.prog 10 #[.int .u64 pc, .int .u64 im, .int .u64 a] W fun e W' => e = .returned (.bool true) ∧ Below W.heap.size W W' := by
  obtain ⟨p, rfl⟩ := of_u64 hpc
  obtain ⟨i, rfl⟩ := of_u64 him
  obtain ⟨x, rfl⟩ := of_u64 ha
  have hB := t16_5 ⟨5, 0, 0, 0, 0, -i, 0, false, false, false, 0⟩ (p + i) x rfl
  simp only [] at hB
  rw [BitVec.add_assoc, BitVec.add_right_neg, BitVec.add_zero] at hB
  have ex := and64 ((x + i) &&& ~~~1#64) 1#64
  have ey := add64 ((x + i) &&& ~~~1#64) 1#64
  rw [even_and] at ex
  rw [show (((1#64).toNat : Nat) : Int) = 1 from by decide] at ex ey
  refine jumps_core _ _ _ _ _ _ _ (t16_3 ⟨3, 0, 0, 0, 0, i, 0, false, false, false, 0⟩ p x rfl) hB (t16_4 ⟨4, 0, 0, 0, 0, i, 0, false, false, false, 0⟩ p x rfl) (neg64 i) (add64 x i) ex _ _ rfl rfl ?_ W
  rw [ey]
  rcases even_cases (x + i) with h | ⟨h, h'⟩
  · left; rw [h]; simp
  · right
    refine ⟨beq_eq_false_iff_ne.2 fun e => h' (BitVec.eq_of_toNat_eq (Int.ofNat_inj.1 e)), ?_⟩
    rw [h]; simp
end Go.Proofs.Ytnncifcfgjphlaa

/- The walk of PredictNil. -/
import Derived.Test.YtkjgklpdoomjcaaPredH
namespace Go.Proofs.Ytkjgklpdoomjcaa
open Go.RowKit

theorem Learn_nil (j : J) (w : World) : Calls Try.prog 27 #[.pointer none, .agg #[.int .u64 j.pc, .bool j.call, .bool j.ret, .bool j.cond, .bool j.taken, .int .u64 j.target]] w fun e w' => e = .returned (.tuple #[]) ∧ w.grownBy w' none := by
  go_enter Try.func27, Try.ntmps27
  go_wp2
  go_returns
  exact ⟨rfl, only_alloc (World.grownBy.refl _ _) _⟩
theorem psquash_nil (w : World) : Calls Try.prog 32 #[.pointer none] w fun e w' => e = .returned (.tuple #[]) ∧ w = w' := by
  go_enter Try.func32, Try.ntmps32
  go_wp2
  go_end0
  exact ⟨rfl, rfl⟩
theorem history_nil (w : World) : Calls Try.prog 33 #[.pointer none] w fun e w' => e = .returned (.int .i64 0) ∧ w = w' := by
  go_enter Try.func33, Try.ntmps33
  go_wp2
  go_ret
  exact ⟨rfl, rfl⟩
theorem guess_nil (pc : Int) (w : World) : Calls Try.prog 28 #[.pointer none, .int .u64 pc] w fun e w' => e = .returned (.agg #[.bool false, .int .u64 (np pc)]) ∧ w.grownBy w' none := by
  go_enter Try.func28, Try.ntmps28
  go_wp2
  go_returns
  refine ⟨rfl, ?_⟩
  repeat (first | (with_reducible exact World.grownBy.refl _ _) | (with_reducible refine only_setCell ?_ (.inr (by simp)) _) | (with_reducible refine only_drewN ?_ _) | (with_reducible refine only_drew ?_) | (with_reducible refine only_alloc ?_ _))

set_option linter.unusedVariables false in
set_option maxRecDepth 100000 in
theorem pnil_walk (w : World) (pc : Int) (wpc : (Lit.int .u64 pc).wf = true) (j : J) (wj : j.wf) :
    Calls Try.prog 12 #[.int .u64 pc, .agg #[.int .u64 j.pc, .bool j.call, .bool j.ret, .bool j.cond, .bool j.taken, .int .u64 j.target]] w fun e w' => e = .returned (.bool true) ∧ Below w.heap.size w w' := by
  go_enter Try.func12, Try.ntmps12
  go_wp2_with fail
  refine (Learn_nil j _).mono ?_
  rintro e w1 ⟨rfl, hg⟩
  have G1 := hide (only_past hg)
  clear hg
  simp only []
  go_wp2_with fail
  refine (psquash_nil _).mono ?_
  rintro e w2 ⟨rfl, rfl⟩
  simp only []
  go_wp2_with fail
  refine (awake21 _).mono ?_
  rintro e w3 ⟨rfl, hg⟩
  have G3 := hide (only_trans G1.out hg)
  clear hg
  simp only []
  go_wp2_with fail
  refine (guess_nil pc _).mono ?_
  rintro e w4 ⟨rfl, hg⟩
  have G4 := hide (only_trans G3.out hg)
  clear hg
  simp only [np]
  go_wp2_with fail
  refine (history_nil _).mono ?_
  rintro e w5 ⟨rfl, rfl⟩
  simp only []
  go_wp2_with fail
  go_ret
  exact ⟨by simp, below_none (Below.refl _ _) G4.out (Nat.le_refl _)⟩
end Go.Proofs.Ytkjgklpdoomjcaa

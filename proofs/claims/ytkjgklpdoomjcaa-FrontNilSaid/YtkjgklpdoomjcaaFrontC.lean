/- CONTRACTS OF front.Front: the nil one; FrontNil: the walk. -/
import Derived.Test.YtkjgklpdoomjcaaFrontB
import Derived.Deep.DeepCutAuto
import Derived.Deep.CutBlock
import Derived.Deep.LoopGhost
namespace Go.Proofs.Ytkjgklpdoomjcaa
open Go.RowKit
set_option linter.unusedVariables false
set_option linter.unusedSimpArgs false
set_option maxHeartbeats 3200000
theorem fturn_nil (pc : Int) (w : World) : Calls Try.prog 42 #[.pointer none, .int .u64 pc] w fun e w' => e = .returned (.tuple #[]) ∧ w = w' := by
  go_enter Try.func42, Try.ntmps42
  go_wp2
  go_end0
  exact ⟨rfl, rfl⟩
theorem flearn_nil (j : J) (w : World) : Calls Try.prog 43 #[.pointer none, .agg #[.int .u64 j.pc, .bool j.call, .bool j.ret, .bool j.cond, .bool j.taken, .int .u64 j.target]] w fun e w' => e = .returned (.tuple #[]) ∧ w.grownBy w' none := by
  go_enter Try.func43, Try.ntmps43
  go_wp2
  go_returns
  exact ⟨rfl, only_alloc (World.grownBy.refl _ _) _⟩
theorem fwant_nil (w : World) : Calls Try.prog 39 #[.pointer none] w fun e w' => e = .returned (.tuple #[.int .u64 0, .int .i64 0, .bool false]) ∧ w = w' := by
  go_enter Try.func39, Try.ntmps39
  go_wp2
  refine bodyPost_ret (v := .tuple #[.int .u64 0, .int .i64 0, .bool false]) (by simp [results, Try.results39, go_sem]) rfl ?_
  exact ⟨rfl, rfl⟩
theorem fpeek_nil (w : World) : Calls Try.prog 47 #[.pointer none] w fun e w' => e = .returned (.tuple #[.agg #[.int .u64 0, .int .u32 0, .int .i64 0, .int .u64 0, .int .i64 0], .bool false]) ∧ w.grownBy w' none := by
  go_enter Try.func47, Try.ntmps47
  go_wp2
  go_returns
  exact ⟨rfl, only_alloc (World.grownBy.refl _ _) _⟩
theorem ftake_nil (w : World) : Calls Try.prog 41 #[.pointer none] w fun e w' => e = .returned (.tuple #[.agg #[.int .u64 0, .int .u32 0, .int .i64 0, .int .u64 0, .int .i64 0], .bool false]) ∧ w.grownBy w' none := by
  go_enter Try.func41, Try.ntmps41
  go_wp2
  go_returns
  exact ⟨rfl, only_alloc (World.grownBy.refl _ _) _⟩
theorem fgot_nil (pc ep bits fault : Int) (w : World) : Calls Try.prog 40 #[.pointer none, .int .u64 pc, .int .i64 ep, .int .u32 bits, .int .i64 fault] w fun e w' => e = .returned (.int .i64 2) ∧ w = w' := by
  go_enter Try.func40, Try.ntmps40
  go_wp2
  go_ret
  exact ⟨rfl, rfl⟩
theorem fholds_nil (lo hi : Int) (w : World) : Calls Try.prog 48 #[.pointer none, .int .u64 lo, .int .u64 hi] w fun e w' => e = .returned (.bool false) ∧ w = w' := by
  go_enter Try.func48, Try.ntmps48
  go_wp2
  go_ret
  exact ⟨rfl, rfl⟩
theorem fepoch_nil (w : World) : Calls Try.prog 44 #[.pointer none] w fun e w' => e = .returned (.int .i64 0) ∧ w = w' := by
  go_enter Try.func44, Try.ntmps44
  go_wp2
  go_ret
  exact ⟨rfl, rfl⟩
set_option maxRecDepth 100000 in
theorem fnil_walk (w : World) (pc : Int) (_ : (Lit.int .u64 pc).wf = true) (ep : Int) (_ : (Lit.int .i64 ep).wf = true) (bits : Int) (_ : (Lit.int .u32 bits).wf = true) (fault : Int) (_ : (Lit.int .i64 fault).wf = true) (j : J) (wj : j.wf) :
    Calls Try.prog 16 #[.int .u64 pc, .int .i64 ep, .int .u32 bits, .int .i64 fault, .agg #[.int .u64 j.pc, .bool j.call, .bool j.ret, .bool j.cond, .bool j.taken, .int .u64 j.target]] w fun e w' => e = .returned (.bool true) ∧ Below w.heap.size w w' := by
  clear wj
  go_enter Try.func16, Try.ntmps16
  go_wp2_with fail
  refine (fturn_nil pc _).mono ?_
  rintro e w1 ⟨rfl, rfl⟩
  simp only []
  go_wp2_with fail
  refine (flearn_nil j _).mono ?_
  rintro e w1 ⟨rfl, hg⟩
  have G1 := hide (only_past hg)
  clear hg
  simp only []
  go_wp2_with fail
  refine (fwant_nil _).mono ?_
  rintro e w2 ⟨rfl, rfl⟩
  simp only []
  go_wp2_with fail
  refine (fpeek_nil _).mono ?_
  rintro e w2 ⟨rfl, hg⟩
  have G2 := hide (only_trans G1.out hg)
  clear hg
  simp only []
  go_wp2_with fail
  refine (ftake_nil _).mono ?_
  rintro e w3 ⟨rfl, hg⟩
  have X3 := hide ((S.zero.box w2).grown hg (by simp))
  have G3 := hide (only_trans G2.out (only_past hg))
  clear hg
  simp only []
  go_wp2_with fail
  refine (awake38 _).mono ?_
  rintro e w4 ⟨rfl, hb⟩
  have Y4 := hide ((S.zero.box w3).below hb (by simp))
  have X4 := hide ((X3.out.alloc _).below hb (X3.out.alloc _).lt)
  have B4 := hide ((below_none (Below.refl w.heap.size w) (only_alloc G3.out _) (Nat.le_refl _)).trans (hb.mono (only_alloc G3.out _).size))
  obtain ⟨y0, y1, y2, y3, y4⟩ := S.five Y4.out
  obtain ⟨x0, x1, x2, x3, x4⟩ := S.five X4.out
  clear hb
  simp only [S.zero] at y0 y1 y2 y3 y4 x0 x1 x2 x3 x4
  simp only []
  go_wp2_with fail
  refine (fgot_nil pc ep bits fault _).mono ?_
  rintro e w5 ⟨rfl, rfl⟩
  simp only []
  go_wp2_with fail
  refine (fholds_nil _ _ _).mono ?_
  rintro e w5 ⟨rfl, rfl⟩
  simp only []
  go_wp2_with fail
  refine (fepoch_nil _).mono ?_
  rintro e w5 ⟨rfl, rfl⟩
  simp only []
  go_wp2_with fail
  go_ret
  exact ⟨rfl, B4.out⟩
end Go.Proofs.Ytkjgklpdoomjcaa


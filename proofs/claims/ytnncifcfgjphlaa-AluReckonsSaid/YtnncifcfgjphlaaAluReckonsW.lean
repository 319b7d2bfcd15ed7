/- CONTRACTS OF THE DOCUMENT'S Alu. -/
import Derived.Test.YtnncifcfgjphlaaRefsU
import Derived.Test.YtnncifcfgjphlaaShifts
import Derived.Test.YtnncifcfgjphlaaTarget
import Derived.Test.YtnncifcfgjphlaaBranchR
import Derived.Test.YtnncifcfgjphlaaAluRefB
namespace Go.Proofs.Ytnncifcfgjphlaa
open Go.RowKit
set_option linter.unusedVariables false
set_option linter.unusedSimpArgs false
set_option maxHeartbeats 1600000
theorem both (f : Int) (word : Bool) (x y : BitVec 64) : ∃ r, A f word x y r ∧ RA f word x y r := by
  cases word
  · by_cases h0 : f = 0
    · subst h0; exact ⟨_, alu_0 x y, ra_0 x y⟩
    by_cases h8 : f = 8
    · subst h8; exact ⟨_, alu_8 x y, ra_8 x y⟩
    by_cases h1 : f = 1
    · subst h1; exact ⟨_, alu_1 x y, ra_1 x y⟩
    by_cases h5 : f = 5
    · subst h5; exact ⟨_, alu_5 x y, ra_5 x y⟩
    by_cases h13 : f = 13
    · subst h13; exact ⟨_, alu_13 x y, ra_13 x y⟩
    by_cases h4 : f = 4
    · subst h4; exact ⟨_, alu_4 x y, ra_4 x y⟩
    by_cases h6 : f = 6
    · subst h6; exact ⟨_, alu_6 x y, ra_6 x y⟩
    by_cases h7 : f = 7
    · subst h7; exact ⟨_, alu_7 x y, ra_7 x y⟩
    by_cases h2 : f = 2
    · subst h2; exact ⟨_, alu_2 x y, ra_2 x y⟩
    by_cases h3 : f = 3
    · subst h3; exact ⟨_, alu_3 x y, ra_3 x y⟩
    exact ⟨_, alu_other f x y h8 h0 h1 h5 h13 h2 h3 h4 h6 h7, ra_other f x y h8 h0 h1 h5 h13 h2 h3 h4 h6 h7⟩
  · by_cases h0 : f = 0
    · subst h0; exact ⟨_, aluw_0 x y, raw_0 x y⟩
    by_cases h8 : f = 8
    · subst h8; exact ⟨_, aluw_8 x y, raw_8 x y⟩
    by_cases h1 : f = 1
    · subst h1; exact ⟨_, aluw_1 x y, raw_1 x y⟩
    by_cases h5 : f = 5
    · subst h5; exact ⟨_, aluw_5 x y, raw_5 x y⟩
    by_cases h13 : f = 13
    · subst h13; exact ⟨_, aluw_13 x y, raw_13 x y⟩
    exact ⟨_, aluw_other f x y h8 h0 h1 h5 h13, raw_other f x y h8 h0 h1 h5 h13⟩
set_option maxRecDepth 100000 in
theorem reckons_core (f : Int) (word : Bool) (x y r : BitVec 64) (hA : A f word x y r) (hR : RA f word x y r) (W : World) :
    Calls Try.prog 3 #[.int .i64 f, .bool word, .int .u64 x.toNat, .int .u64 y.toNat] W fun e W' => e = .returned (.bool true) ∧ W' = W := by
  replace hA := hide hA
  replace hR := hide hR
  go_enter Try.func3, Try.ntmps3
  go_wp2_with fail
  refine (awake_c _).mono ?_
  rintro e w' ⟨rfl, rfl⟩
  simp only []
  go_wp2_with fail
  refine (hA.out _).mono ?_
  rintro e w' ⟨rfl, rfl⟩
  simp only []
  go_wp2_with fail
  refine (hR.out _).mono ?_
  rintro e w' ⟨rfl, rfl⟩
  simp only []
  go_wp2_with fail
  go_ret
  exact ⟨rfl, rfl⟩
theorem reckons_w (W : World) (f : Int) (_ : (Lit.int .i64 f).wf = true) (word : Bool) (x : Int) (hx : (Lit.int .u64 x).wf = true) (y : Int) (hy : (Lit.int .u64 y).wf = true) :
    Calls Try.prog 3 #[.int .i64 f, .bool word, .int .u64 x, .int .u64 y] W fun e W' => e = .returned (.bool true) ∧ Below W.heap.size W W' := by
  obtain ⟨x, rfl⟩ := of_u64 hx
  obtain ⟨y, rfl⟩ := of_u64 hy
  obtain ⟨r, h1, h2⟩ := both f word x y
  exact (reckons_core f word x y r h1 h2 W).mono fun _ _ h => below_same h
end Go.Proofs.Ytnncifcfgjphlaa

/- AluShifts: the walk. -/
import Derived.Test.YtnncifcfgjphlaaAluB
namespace Go.Proofs.Ytnncifcfgjphlaa
open Go.RowKit
set_option linter.unusedVariables false
set_option maxHeartbeats 3200000
def AN (f : Int) (x : BitVec 64) (n : Nat) (r : BitVec 64) : Prop := ∀ w : World, Calls Try.prog 12 #[.int .i64 f, .bool false, .int .u64 x.toNat, .int .u64 (n : Int)] w fun e w' => e = .returned (.int .u64 r.toNat) ∧ w' = w
theorem an_of {f : Int} {x r : BitVec 64} {n : Nat} (hn : n < 64) (h : ∀ y : BitVec 64, y.toNat = n → A f false x y r) : AN f x n r := by
  intro w
  have e : (BitVec.ofNat 64 n).toNat = n := by rw [BitVec.toNat_ofNat]; omega
  have := h (BitVec.ofNat 64 n) e w
  rwa [e] at this
theorem an_1 (x : BitVec 64) (n : Nat) (hn : n < 64) : AN 1 x n (x <<< n) := an_of hn fun y e => by have := alu_1 x y; rwa [e, Nat.mod_eq_of_lt hn] at this
theorem an_5 (x : BitVec 64) (n : Nat) (hn : n < 64) : AN 5 x n (x >>> n) := an_of hn fun y e => by have := alu_5 x y; rwa [e, Nat.mod_eq_of_lt hn] at this
theorem an_13 (x : BitVec 64) (n : Nat) (hn : n < 64) : AN 13 x n (x.sshiftRight n) := an_of hn fun y e => by have := alu_13 x y; rwa [e, Nat.mod_eq_of_lt hn] at this
set_option maxRecDepth 100000 in
theorem shifts_out (x : BitVec 64) (n m : Int) (h : n < 0 ∨ 0 ≤ n ∧ 63 < n ∨ 0 ≤ n ∧ n ≤ 63 ∧ m < 0 ∨ 0 ≤ n ∧ n ≤ 63 ∧ 0 ≤ m ∧ 63 < m) (W : World) :
    Calls Try.prog 5 #[.int .u64 x.toNat, .int .i64 n, .int .i64 m] W fun e W' => e = .returned (.bool true) ∧ W' = W := by
  rcases h with h | ⟨h1, h2⟩ | ⟨h1, h2, h3⟩ | ⟨h1, h2, h3, h4⟩
  · go_enter Try.func5, Try.ntmps5
    go_wp2_with fail
    refine (awake_c _).mono ?_
    rintro e w' ⟨rfl, rfl⟩
    simp only []
    go_wp2_with fail
    refine (awake_c _).mono ?_
    rintro e w' ⟨rfl, rfl⟩
    simp only []
    go_wp2_with fail
    go_ret
    exact ⟨rfl, rfl⟩
  · go_enter Try.func5, Try.ntmps5
    go_wp2_with fail
    refine (awake_c _).mono ?_
    rintro e w' ⟨rfl, rfl⟩
    simp only []
    go_wp2_with fail
    refine (awake_c _).mono ?_
    rintro e w' ⟨rfl, rfl⟩
    simp only []
    go_wp2_with fail
    go_ret
    exact ⟨rfl, rfl⟩
  · go_enter Try.func5, Try.ntmps5
    go_wp2_with fail
    refine (awake_c _).mono ?_
    rintro e w' ⟨rfl, rfl⟩
    simp only []
    go_wp2_with fail
    refine (awake_c _).mono ?_
    rintro e w' ⟨rfl, rfl⟩
    simp only []
    go_wp2_with fail
    go_ret
    exact ⟨rfl, rfl⟩
  · go_enter Try.func5, Try.ntmps5
    go_wp2_with fail
    refine (awake_c _).mono ?_
    rintro e w' ⟨rfl, rfl⟩
    simp only []
    go_wp2_with fail
    refine (awake_c _).mono ?_
    rintro e w' ⟨rfl, rfl⟩
    simp only []
    go_wp2_with fail
    go_ret
    exact ⟨rfl, rfl⟩
set_option maxRecDepth 100000 in
theorem shifts_in (x : BitVec 64) (n m : Nat) (hn : n < 64) (hm : m < 64) (W : World) :
    Calls Try.prog 5 #[.int .u64 x.toNat, .int .i64 n, .int .i64 m] W fun e W' => e = .returned (.bool true) ∧ W' = W := by
  have hU := an_1 x n hn
  have hD := an_5 (x <<< n) n hn
  have hS := an_13 (x <<< n) n hn
  have s1 := shl64 x n
  have s2 := shr64 (x <<< n) n
  have s3 := sra64 (x <<< n) n
  have s4 := i64_toInt (x <<< n)
  have s5 := i64_toInt ((x <<< n).sshiftRight n)
  have hU2 := an_1 (x <<< n) m hm
  have hR1 := an_13 x n hn
  have hR2 := an_13 (x.sshiftRight n) m hm
  rw [← BitVec.shiftLeft_add] at hU2
  rw [← BitVec.sshiftRight_add] at hR2
  by_cases hk : n + m ≤ 63
  · have hU3 := an_1 x (n + m) (by omega)
    have hR3 := an_13 x (n + m) (by omega)
    generalize x <<< (n + m) = t1 at *
    generalize x.sshiftRight (n + m) = t2 at *
    generalize x.sshiftRight n = t3 at *
    generalize x <<< n = u at *
    generalize u.sshiftRight n = t4 at *
    generalize u >>> n = t5 at *
    replace hU := hide hU
    replace hD := hide hD
    replace hS := hide hS
    replace hU2 := hide hU2
    replace hU3 := hide hU3
    replace hR1 := hide hR1
    replace hR2 := hide hR2
    replace hR3 := hide hR3
    have q1 : ((t5.toNat : Int) != t5.toNat) = false := by simp
    have q2 : ((t4.toInt : Int) != t4.toInt) = false := by simp
    have q3 : ((t1.toNat : Int) == t1.toNat) = true := by simp
    have q4 : ((t2.toNat : Int) == t2.toNat) = true := by simp
    go_enter Try.func5, Try.ntmps5
    go_wp2_with fail
    refine (awake_c _).mono ?_
    rintro e w' ⟨rfl, rfl⟩
    simp only []
    go_wp2_with fail
    refine (hU.out _).mono ?_
    rintro e w' ⟨rfl, rfl⟩
    simp only []
    go_wp2_with fail
    refine (hD.out _).mono ?_
    rintro e w' ⟨rfl, rfl⟩
    simp only []
    go_wp2_with fail
    refine (hS.out _).mono ?_
    rintro e w' ⟨rfl, rfl⟩
    simp only []
    go_wp2_with fail
    refine (hU2.out _).mono ?_
    rintro e w' ⟨rfl, rfl⟩
    simp only []
    go_wp2_with fail
    refine (hU3.out _).mono ?_
    rintro e w' ⟨rfl, rfl⟩
    simp only []
    go_wp2_with fail
    refine (hR1.out _).mono ?_
    rintro e w' ⟨rfl, rfl⟩
    simp only []
    go_wp2_with fail
    refine (hR2.out _).mono ?_
    rintro e w' ⟨rfl, rfl⟩
    simp only []
    go_wp2_with fail
    refine (hR3.out _).mono ?_
    rintro e w' ⟨rfl, rfl⟩
    simp only []
    go_wp2_with fail
    go_ret
    exact ⟨rfl, rfl⟩
  · clear hU2 hR1 hR2
    generalize x <<< n = u at *
    generalize u.sshiftRight n = t4 at *
    generalize u >>> n = t5 at *
    replace hU := hide hU
    replace hD := hide hD
    replace hS := hide hS
    have q1 : ((t5.toNat : Int) != t5.toNat) = false := by simp
    have q2 : ((t4.toInt : Int) != t4.toInt) = false := by simp
    go_enter Try.func5, Try.ntmps5
    go_wp2_with fail
    refine (awake_c _).mono ?_
    rintro e w' ⟨rfl, rfl⟩
    simp only []
    go_wp2_with fail
    refine (hU.out _).mono ?_
    rintro e w' ⟨rfl, rfl⟩
    simp only []
    go_wp2_with fail
    refine (hD.out _).mono ?_
    rintro e w' ⟨rfl, rfl⟩
    simp only []
    go_wp2_with fail
    refine (hS.out _).mono ?_
    rintro e w' ⟨rfl, rfl⟩
    simp only []
    go_wp2_with fail
    go_ret
    exact ⟨rfl, rfl⟩
theorem shifts_w (W : World) (a : Int) (ha : (Lit.int .u64 a).wf = true) (n : Int) (hn : (Lit.int .i64 n).wf = true) (m : Int) (hm : (Lit.int .i64 m).wf = true) :
    Calls Try.prog 5 #[.int .u64 a, .int .i64 n, .int .i64 m] W fun e W' => e = .returned (.bool true) ∧ Below W.heap.size W W' := by
  obtain ⟨x, rfl⟩ := of_u64 ha
  by_cases h : 0 ≤ n ∧ n ≤ 63 ∧ 0 ≤ m ∧ m ≤ 63
  · obtain ⟨n, rfl⟩ := Int.eq_ofNat_of_zero_le h.1
    obtain ⟨m, rfl⟩ := Int.eq_ofNat_of_zero_le h.2.2.1
    exact (shifts_in x n m (by omega) (by omega) W).mono fun _ _ h => below_same h
  · exact (shifts_out x n m (by omega) W).mono fun _ _ h => below_same h
end Go.Proofs.Ytnncifcfgjphlaa

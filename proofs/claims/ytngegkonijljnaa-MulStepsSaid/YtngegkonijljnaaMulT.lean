/- CONTRACTS OF THE DOCUMENT'S Steps. -/
import Derived.Test.YtngegkonijljnaaMulResultsW
import Derived.Test.YtngegkonijljnaaMulWaysW
namespace Go.Proofs.Ytngegkonijljnaa
open Go.RowKit
set_option linter.unusedVariables false
set_option linter.unusedSimpArgs false
set_option maxHeartbeats 1600000
def St (f : Int) (word : Bool) (x y : BitVec 64) (n : Int) : Prop := ∀ w : World, Calls Try.prog 15 #[.int .i64 f, .bool word, .int .u64 x.toNat, .int .u64 y.toNat] w fun e w' => e = .returned (.int .i64 n) ∧ w' = w
theorem sext_inj (z c : BitVec 32) : ((((z.signExtend 64).toNat : Nat) : Int) == (((c.signExtend 64).toNat : Nat) : Int)) = (((z.toNat : Nat) : Int) == ((c.toNat : Nat) : Int)) := by
  by_cases h : z = c
  · subst h; simp
  · have h1 : ¬ z.toNat = c.toNat := fun e => h (BitVec.eq_of_toNat_eq e)
    have h2 : ¬ (z.signExtend 64).toNat = (c.signExtend 64).toNat := fun e => h (by
      have := BitVec.eq_of_toNat_eq e
      rw [← low_sext z, this, low_sext])
    rw [beq_eq_false_iff_ne.2 (by omega), beq_eq_false_iff_ne.2 (by omega)]
theorem sext_0 (z : BitVec 32) : ((((z.signExtend 64).toNat : Nat) : Int) == 0) = (((z.toNat : Nat) : Int) == 0) := by
  have := sext_inj z 0#32
  rwa [show (((0#32).signExtend 64).toNat : Int) = 0 from by decide, show ((0#32).toNat : Int) = 0 from by decide] at this
theorem sext_l (z : BitVec 32) : ((((z.signExtend 64).toNat : Nat) : Int) == 18446744071562067968) = (((z.toNat : Nat) : Int) == 2147483648) := by
  have := sext_inj z 2147483648#32
  rwa [show (((2147483648#32).signExtend 64).toNat : Int) = 18446744071562067968 from by decide, show ((2147483648#32).toNat : Int) = 2147483648 from by decide] at this
theorem sext_a (z : BitVec 32) : ((((z.signExtend 64).toNat : Nat) : Int) == 18446744073709551615) = (((z.toNat : Nat) : Int) == 4294967295) := by
  have := sext_inj z 4294967295#32
  rwa [show (((4294967295#32).signExtend 64).toNat : Int) = 18446744073709551615 from by decide, show ((4294967295#32).toNat : Int) = 4294967295 from by decide] at this
theorem sext_least (w : World) : Calls Try.prog 24 #[.int .u64 2147483648, .int .i64 32] w fun e w' => e = .returned (.int .u64 18446744071562067968) ∧ w' = w := by
  have := sext32_c 2147483648#64 w
  rw [show (((((2147483648#64).setWidth 32).signExtend 64).toNat : Nat) : Int) = 18446744071562067968 from by decide, show (((2147483648#64).toNat : Nat) : Int) = 2147483648 from by decide] at this
  exact this
set_option maxRecDepth 100000 in
theorem st_negf (f : Int) (x y : BitVec 64) (h : f < 0) : St f false x y 0 := by
  intro w
  have d1 : decide (f < 0) = true := decide_eq_true h
  go_enter Try.func15, Try.ntmps15
  go_wp2_with fail
  go_ret
  exact ⟨rfl, rfl⟩
set_option maxRecDepth 100000 in
theorem st_negt (f : Int) (x y : BitVec 64) (h : f < 0) : St f true x y 0 := by
  intro w
  have d1 : decide (f < 0) = true := decide_eq_true h
  have SL := hide sext_least
  have SX := hide (sext32_c x)
  have SY := hide (sext32_c y)
  generalize ((x.setWidth 32).signExtend 64) = sx at *
  generalize ((y.setWidth 32).signExtend 64) = sy at *
  go_enter Try.func15, Try.ntmps15
  go_wp2_with fail
  refine (SL.out _).mono ?_
  rintro e w1 ⟨rfl, rfl⟩
  simp only []
  go_wp2_with fail
  refine (SX.out _).mono ?_
  rintro e w1 ⟨rfl, rfl⟩
  simp only []
  go_wp2_with fail
  refine (SY.out _).mono ?_
  rintro e w1 ⟨rfl, rfl⟩
  simp only []
  go_wp2_with fail
  go_ret
  exact ⟨rfl, rfl⟩
set_option maxRecDepth 100000 in
theorem st_bigf (f : Int) (x y : BitVec 64) (h : 7 < f) : St f false x y 0 := by
  intro w
  have d1 : decide (f < 0) = false := decide_eq_false (by omega)
  have d2 : decide (7 < f) = true := decide_eq_true h
  go_enter Try.func15, Try.ntmps15
  go_wp2_with fail
  go_ret
  exact ⟨rfl, rfl⟩
set_option maxRecDepth 100000 in
theorem st_bigt (f : Int) (x y : BitVec 64) (h : 7 < f) : St f true x y 0 := by
  intro w
  have d1 : decide (f < 0) = false := decide_eq_false (by omega)
  have d2 : decide (7 < f) = true := decide_eq_true h
  have SL := hide sext_least
  have SX := hide (sext32_c x)
  have SY := hide (sext32_c y)
  generalize ((x.setWidth 32).signExtend 64) = sx at *
  generalize ((y.setWidth 32).signExtend 64) = sy at *
  go_enter Try.func15, Try.ntmps15
  go_wp2_with fail
  refine (SL.out _).mono ?_
  rintro e w1 ⟨rfl, rfl⟩
  simp only []
  go_wp2_with fail
  refine (SX.out _).mono ?_
  rintro e w1 ⟨rfl, rfl⟩
  simp only []
  go_wp2_with fail
  refine (SY.out _).mono ?_
  rintro e w1 ⟨rfl, rfl⟩
  simp only []
  go_wp2_with fail
  go_ret
  exact ⟨rfl, rfl⟩
set_option maxRecDepth 100000 in
theorem st_hole (f : Int) (x y : BitVec 64) (h : 0 < f) (h2 : f < 4) : St f true x y 0 := by
  intro w
  have d1 : decide (f < 0) = false := decide_eq_false (by omega)
  have d2 : decide (7 < f) = false := decide_eq_false (by omega)
  have d3 : decide (1 ≤ f) = true := decide_eq_true (by omega)
  have d4 : decide (f ≤ 3) = true := decide_eq_true (by omega)
  have SL := hide sext_least
  have SX := hide (sext32_c x)
  have SY := hide (sext32_c y)
  generalize ((x.setWidth 32).signExtend 64) = sx at *
  generalize ((y.setWidth 32).signExtend 64) = sy at *
  go_enter Try.func15, Try.ntmps15
  go_wp2_with fail
  refine (SL.out _).mono ?_
  rintro e w1 ⟨rfl, rfl⟩
  simp only []
  go_wp2_with fail
  refine (SX.out _).mono ?_
  rintro e w1 ⟨rfl, rfl⟩
  simp only []
  go_wp2_with fail
  refine (SY.out _).mono ?_
  rintro e w1 ⟨rfl, rfl⟩
  simp only []
  go_wp2_with fail
  go_ret
  exact ⟨rfl, rfl⟩
set_option maxRecDepth 100000 in
theorem st_0f (x y : BitVec 64) : St 0 false x y 64 := by
  intro w
  go_enter Try.func15, Try.ntmps15
  go_wp2_with fail
  go_ret
  exact ⟨rfl, rfl⟩
set_option maxRecDepth 100000 in
theorem st_0t (x y : BitVec 64) : St 0 true x y 32 := by
  intro w
  have SL := hide sext_least
  have SX := hide (sext32_c x)
  have SY := hide (sext32_c y)
  generalize ((x.setWidth 32).signExtend 64) = sx at *
  generalize ((y.setWidth 32).signExtend 64) = sy at *
  go_enter Try.func15, Try.ntmps15
  go_wp2_with fail
  refine (SL.out _).mono ?_
  rintro e w1 ⟨rfl, rfl⟩
  simp only []
  go_wp2_with fail
  refine (SX.out _).mono ?_
  rintro e w1 ⟨rfl, rfl⟩
  simp only []
  go_wp2_with fail
  refine (SY.out _).mono ?_
  rintro e w1 ⟨rfl, rfl⟩
  simp only []
  go_wp2_with fail
  go_ret
  exact ⟨rfl, rfl⟩
set_option maxRecDepth 100000 in
theorem st_1f (x y : BitVec 64) : St 1 false x y 64 := by
  intro w
  go_enter Try.func15, Try.ntmps15
  go_wp2_with fail
  go_ret
  exact ⟨rfl, rfl⟩
set_option maxRecDepth 100000 in
theorem st_2f (x y : BitVec 64) : St 2 false x y 64 := by
  intro w
  go_enter Try.func15, Try.ntmps15
  go_wp2_with fail
  go_ret
  exact ⟨rfl, rfl⟩
set_option maxRecDepth 100000 in
theorem st_3f (x y : BitVec 64) : St 3 false x y 64 := by
  intro w
  go_enter Try.func15, Try.ntmps15
  go_wp2_with fail
  go_ret
  exact ⟨rfl, rfl⟩
set_option maxRecDepth 100000 in
theorem st_4f (x y : BitVec 64) : St 4 false x y (if ((((y.toNat : Nat) : Int) == 0) || (((x.toNat : Nat) : Int) == 9223372036854775808) && (((y.toNat : Nat) : Int) == 18446744073709551615)) then 1 else 64) := by
  intro w
  generalize h1 : (((y.toNat : Nat) : Int) == 0) = b1 at *
  generalize h2 : (((x.toNat : Nat) : Int) == 9223372036854775808) = b2 at *
  generalize h3 : (((y.toNat : Nat) : Int) == 18446744073709551615) = b3 at *
  cases b1 <;> cases b2 <;> cases b3
  all_goals
    go_enter Try.func15, Try.ntmps15
    go_wp2_with fail
    go_ret
    exact ⟨rfl, rfl⟩
set_option maxRecDepth 100000 in
theorem st_4t (x y : BitVec 64) : St 4 true x y (if (((((y.setWidth 32).toNat : Nat) : Int) == 0) || ((((x.setWidth 32).toNat : Nat) : Int) == 2147483648) && ((((y.setWidth 32).toNat : Nat) : Int) == 4294967295)) then 1 else 32) := by
  intro w
  have SL := hide sext_least
  have SX := hide (sext32_c x)
  have SY := hide (sext32_c y)
  have e0 := sext_0 (y.setWidth 32)
  have e1 := sext_l (x.setWidth 32)
  have e2 := sext_a (y.setWidth 32)
  generalize h1 : ((((y.setWidth 32).toNat : Nat) : Int) == 0) = b1 at *
  generalize h2 : ((((x.setWidth 32).toNat : Nat) : Int) == 2147483648) = b2 at *
  generalize h3 : ((((y.setWidth 32).toNat : Nat) : Int) == 4294967295) = b3 at *
  generalize ((x.setWidth 32).signExtend 64) = sx at *
  generalize ((y.setWidth 32).signExtend 64) = sy at *
  cases b1 <;> cases b2 <;> cases b3
  all_goals
    go_enter Try.func15, Try.ntmps15
    go_wp2_with fail
    refine (SL.out _).mono ?_
    rintro e w1 ⟨rfl, rfl⟩
    simp only []
    go_wp2_with fail
    refine (SX.out _).mono ?_
    rintro e w1 ⟨rfl, rfl⟩
    simp only []
    go_wp2_with fail
    refine (SY.out _).mono ?_
    rintro e w1 ⟨rfl, rfl⟩
    simp only []
    go_wp2_with fail
    go_ret
    exact ⟨rfl, rfl⟩
set_option maxRecDepth 100000 in
theorem st_5f (x y : BitVec 64) : St 5 false x y (if ((((y.toNat : Nat) : Int) == 0)) then 1 else 64) := by
  intro w
  generalize h1 : (((y.toNat : Nat) : Int) == 0) = b1 at *
  cases b1
  all_goals
    go_enter Try.func15, Try.ntmps15
    go_wp2_with fail
    go_ret
    exact ⟨rfl, rfl⟩
set_option maxRecDepth 100000 in
theorem st_5t (x y : BitVec 64) : St 5 true x y (if (((((y.setWidth 32).toNat : Nat) : Int) == 0)) then 1 else 32) := by
  intro w
  have SL := hide sext_least
  have SX := hide (sext32_c x)
  have SY := hide (sext32_c y)
  have e0 := sext_0 (y.setWidth 32)
  have e1 := sext_l (x.setWidth 32)
  have e2 := sext_a (y.setWidth 32)
  generalize h1 : ((((y.setWidth 32).toNat : Nat) : Int) == 0) = b1 at *
  generalize ((x.setWidth 32).signExtend 64) = sx at *
  generalize ((y.setWidth 32).signExtend 64) = sy at *
  cases b1
  all_goals
    go_enter Try.func15, Try.ntmps15
    go_wp2_with fail
    refine (SL.out _).mono ?_
    rintro e w1 ⟨rfl, rfl⟩
    simp only []
    go_wp2_with fail
    refine (SX.out _).mono ?_
    rintro e w1 ⟨rfl, rfl⟩
    simp only []
    go_wp2_with fail
    refine (SY.out _).mono ?_
    rintro e w1 ⟨rfl, rfl⟩
    simp only []
    go_wp2_with fail
    go_ret
    exact ⟨rfl, rfl⟩
set_option maxRecDepth 100000 in
theorem st_6f (x y : BitVec 64) : St 6 false x y (if ((((y.toNat : Nat) : Int) == 0) || (((x.toNat : Nat) : Int) == 9223372036854775808) && (((y.toNat : Nat) : Int) == 18446744073709551615)) then 1 else 64) := by
  intro w
  generalize h1 : (((y.toNat : Nat) : Int) == 0) = b1 at *
  generalize h2 : (((x.toNat : Nat) : Int) == 9223372036854775808) = b2 at *
  generalize h3 : (((y.toNat : Nat) : Int) == 18446744073709551615) = b3 at *
  cases b1 <;> cases b2 <;> cases b3
  all_goals
    go_enter Try.func15, Try.ntmps15
    go_wp2_with fail
    go_ret
    exact ⟨rfl, rfl⟩
set_option maxRecDepth 100000 in
theorem st_6t (x y : BitVec 64) : St 6 true x y (if (((((y.setWidth 32).toNat : Nat) : Int) == 0) || ((((x.setWidth 32).toNat : Nat) : Int) == 2147483648) && ((((y.setWidth 32).toNat : Nat) : Int) == 4294967295)) then 1 else 32) := by
  intro w
  have SL := hide sext_least
  have SX := hide (sext32_c x)
  have SY := hide (sext32_c y)
  have e0 := sext_0 (y.setWidth 32)
  have e1 := sext_l (x.setWidth 32)
  have e2 := sext_a (y.setWidth 32)
  generalize h1 : ((((y.setWidth 32).toNat : Nat) : Int) == 0) = b1 at *
  generalize h2 : ((((x.setWidth 32).toNat : Nat) : Int) == 2147483648) = b2 at *
  generalize h3 : ((((y.setWidth 32).toNat : Nat) : Int) == 4294967295) = b3 at *
  generalize ((x.setWidth 32).signExtend 64) = sx at *
  generalize ((y.setWidth 32).signExtend 64) = sy at *
  cases b1 <;> cases b2 <;> cases b3
  all_goals
    go_enter Try.func15, Try.ntmps15
    go_wp2_with fail
    refine (SL.out _).mono ?_
    rintro e w1 ⟨rfl, rfl⟩
    simp only []
    go_wp2_with fail
    refine (SX.out _).mono ?_
    rintro e w1 ⟨rfl, rfl⟩
    simp only []
    go_wp2_with fail
    refine (SY.out _).mono ?_
    rintro e w1 ⟨rfl, rfl⟩
    simp only []
    go_wp2_with fail
    go_ret
    exact ⟨rfl, rfl⟩
set_option maxRecDepth 100000 in
theorem st_7f (x y : BitVec 64) : St 7 false x y (if ((((y.toNat : Nat) : Int) == 0)) then 1 else 64) := by
  intro w
  generalize h1 : (((y.toNat : Nat) : Int) == 0) = b1 at *
  cases b1
  all_goals
    go_enter Try.func15, Try.ntmps15
    go_wp2_with fail
    go_ret
    exact ⟨rfl, rfl⟩
set_option maxRecDepth 100000 in
theorem st_7t (x y : BitVec 64) : St 7 true x y (if (((((y.setWidth 32).toNat : Nat) : Int) == 0)) then 1 else 32) := by
  intro w
  have SL := hide sext_least
  have SX := hide (sext32_c x)
  have SY := hide (sext32_c y)
  have e0 := sext_0 (y.setWidth 32)
  have e1 := sext_l (x.setWidth 32)
  have e2 := sext_a (y.setWidth 32)
  generalize h1 : ((((y.setWidth 32).toNat : Nat) : Int) == 0) = b1 at *
  generalize ((x.setWidth 32).signExtend 64) = sx at *
  generalize ((y.setWidth 32).signExtend 64) = sy at *
  cases b1
  all_goals
    go_enter Try.func15, Try.ntmps15
    go_wp2_with fail
    refine (SL.out _).mono ?_
    rintro e w1 ⟨rfl, rfl⟩
    simp only []
    go_wp2_with fail
    refine (SX.out _).mono ?_
    rintro e w1 ⟨rfl, rfl⟩
    simp only []
    go_wp2_with fail
    refine (SY.out _).mono ?_
    rintro e w1 ⟨rfl, rfl⟩
    simp only []
    go_wp2_with fail
    go_ret
    exact ⟨rfl, rfl⟩
theorem steps_any (f : Int) (word : Bool) (x y : BitVec 64) (f0 : 0 ≤ f) (f7 : f ≤ 7) (fw : word = true → f ≤ 0 ∨ 4 ≤ f) :
    ∃ (r : BitVec 64) (q : Bool) (n : Nat), R f word x y r ∧ RD f word x y r ∧ Qk f word x y q ∧ St f word x y n ∧ (if q then 1 else if word then 32 else 64) = (n : Int) ∧ 1 ≤ n ∧ n ≤ 64 := by
  obtain ⟨r, h1, h2⟩ := both_mul f word x y
  have fin : ∀ (q : Bool) (N : Nat), 1 ≤ N → N ≤ 64 → ((if word then 32 else 64 : Int) = N) → Qk f word x y q → St f word x y (if q then 1 else (N : Int)) → ∃ (r : BitVec 64) (q : Bool) (n : Nat), R f word x y r ∧ RD f word x y r ∧ Qk f word x y q ∧ St f word x y n ∧ (if q then 1 else if word then 32 else 64) = (n : Int) ∧ 1 ≤ n ∧ n ≤ 64 := fun q N n1 n2 hN hq hs => by
    cases q
    · exact ⟨r, false, N, h1, h2, hq, hs, by simpa using hN, n1, n2⟩
    · exact ⟨r, true, 1, h1, h2, hq, hs, by simp, by omega, by omega⟩
  cases word
  · by_cases h4 : 4 ≤ f
    · obtain rfl | rfl | rfl | rfl : f = 4 ∨ f = 5 ∨ f = 6 ∨ f = 7 := by omega
      · exact fin _ 64 (by omega) (by omega) rfl (quick_4f x y) (st_4f x y)
      · exact fin _ 64 (by omega) (by omega) rfl (quick_5f x y) (st_5f x y)
      · exact fin _ 64 (by omega) (by omega) rfl (quick_6f x y) (st_6f x y)
      · exact fin _ 64 (by omega) (by omega) rfl (quick_7f x y) (st_7f x y)
    · obtain rfl | rfl | rfl | rfl : f = 0 ∨ f = 1 ∨ f = 2 ∨ f = 3 := by omega
      · exact fin false 64 (by omega) (by omega) rfl (quick_less 0 false x y (by omega)) (st_0f x y)
      · exact fin false 64 (by omega) (by omega) rfl (quick_less 1 false x y (by omega)) (st_1f x y)
      · exact fin false 64 (by omega) (by omega) rfl (quick_less 2 false x y (by omega)) (st_2f x y)
      · exact fin false 64 (by omega) (by omega) rfl (quick_less 3 false x y (by omega)) (st_3f x y)
  · rcases fw rfl with h | h
    · obtain rfl : f = 0 := by omega
      exact fin false 32 (by omega) (by omega) rfl (quick_less 0 true x y (by omega)) (st_0t x y)
    · obtain rfl | rfl | rfl | rfl : f = 4 ∨ f = 5 ∨ f = 6 ∨ f = 7 := by omega
      · exact fin _ 32 (by omega) (by omega) rfl (quick_4t x y) (st_4t x y)
      · exact fin _ 32 (by omega) (by omega) rfl (quick_5t x y) (st_5t x y)
      · exact fin _ 32 (by omega) (by omega) rfl (quick_6t x y) (st_6t x y)
      · exact fin _ 32 (by omega) (by omega) rfl (quick_7t x y) (st_7t x y)
theorem steps_bad (f : Int) (word : Bool) (x y : BitVec 64) (h : f < 0 ∨ 7 < f ∨ word = true ∧ 0 < f ∧ f < 4) : St f word x y 0 := by
  by_cases c1 : f < 0
  · cases word
    · exact st_negf f x y c1
    · exact st_negt f x y c1
  · by_cases c2 : 7 < f
    · cases word
      · exact st_bigf f x y c2
      · exact st_bigt f x y c2
    · obtain ⟨rfl, c3, c4⟩ : word = true ∧ 0 < f ∧ f < 4 := by rcases h with h | h | h <;> first | exact absurd h c1 | exact absurd h c2 | exact h
      exact st_hole f x y c3 c4
end Go.Proofs.Ytngegkonijljnaa


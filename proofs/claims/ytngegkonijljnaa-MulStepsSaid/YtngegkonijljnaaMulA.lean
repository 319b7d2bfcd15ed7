/- CONTRACTS OF muldiv.wide, high, quotient, short, long, Result. -/
import Derived.Test.YtngegkonijljnaaBits
import Derived.Test.YtngegkonijljnaaMulP
import Derived.Test.YtngegkonijljnaaProg
import Derived.Handy
import Derived.WalkSpells
import Derived.BigRegion
import Derived.BigQuiet
import Derived.Deep.QuietTactic
import Derived.Outline
import Derived.Below
namespace Go.Proofs.Ytngegkonijljnaa
open Go.RowKit
set_option linter.unusedVariables false
set_option linter.unusedSimpArgs false
set_option maxHeartbeats 1600000
theorem wrap_twice (r : BitVec 32) : IntKind.u64.wrap (wrap64 r.toInt) = IntKind.u64.wrap r.toInt := by
  congr 1
  have h1 := BitVec.le_toInt r
  have h2 := BitVec.toInt_lt (x := r)
  simp only [wrap64]; omega
theorem u32_low' (x : BitVec 64) : (x.toNat : Int) % 4294967296 = ((x.setWidth 32).toNat : Int) := by rw [← u32_low, IntKind.wrap_u32]
theorem mul64 (x y : BitVec 64) : IntKind.u64.wrap ((x.toNat : Int) * y.toNat) = ((x * y).toNat : Int) := by rw [← Int.natCast_mul, u64_toNat, BitVec.toNat_ofNat, BitVec.toNat_mul]
theorem sub64 (x y : BitVec 64) : IntKind.u64.wrap ((x.toNat : Int) - y.toNat) = ((x - y).toNat : Int) := by
  rw [IntKind.wrap_u64, BitVec.toNat_sub]; have := x.isLt; have := y.isLt; omega
theorem u64_ofInt (n : Int) : IntKind.u64.wrap (wrap64 n) = ((BitVec.ofInt 64 n).toNat : Int) := by
  rw [IntKind.wrap_u64, BitVec.toNat_ofInt]; unfold wrap64; omega
theorem u64_small (n : Nat) (h : n < 18446744073709551616) : IntKind.u64.wrap (n : Int) = n := by rw [IntKind.wrap_u64]; omega
theorem wide_int (x y : BitVec 64) :
    IntKind.u64.wrap (IntKind.u64.wrap (IntKind.u64.wrap (↑x.toNat / 4294967296 * (↑y.toNat / 4294967296)) + IntKind.u64.wrap (IntKind.u64.wrap (↑x.toNat / 4294967296 * (↑y.toNat % 4294967296)) + IntKind.u64.wrap (↑x.toNat % 4294967296 * (↑y.toNat % 4294967296)) / 4294967296) / 4294967296) + IntKind.u64.wrap (IntKind.u64.wrap (↑x.toNat % 4294967296 * (↑y.toNat / 4294967296)) + IntKind.u64.wrap (IntKind.u64.wrap (↑x.toNat / 4294967296 * (↑y.toNat % 4294967296)) + IntKind.u64.wrap (↑x.toNat % 4294967296 * (↑y.toNat % 4294967296)) / 4294967296) % 4294967296) / 4294967296) = ((hi64 x y).toNat : Int) := by
  have x0 := x.isLt
  have y0 := y.isLt
  obtain ⟨l1, l2, l3, l4, l5⟩ := wide_law (x.toNat / 4294967296) (x.toNat % 4294967296) (y.toNat / 4294967296) (y.toNat % 4294967296) (by omega) (by omega) (by omega) (by omega)
  rw [hi64_nat]
  have ex : x.toNat / 4294967296 * 4294967296 + x.toNat % 4294967296 = x.toNat := Nat.div_add_mod' ..
  have ey : y.toNat / 4294967296 * 4294967296 + y.toNat % 4294967296 = y.toNat := Nat.div_add_mod' ..
  rw [ex, ey] at l5
  rw [← l5]
  have c1 : (x.toNat : Int) / 4294967296 = ((x.toNat / 4294967296 : Nat) : Int) := by omega
  have c2 : (x.toNat : Int) % 4294967296 = ((x.toNat % 4294967296 : Nat) : Int) := by omega
  have c3 : (y.toNat : Int) / 4294967296 = ((y.toNat / 4294967296 : Nat) : Int) := by omega
  have c4 : (y.toNat : Int) % 4294967296 = ((y.toNat % 4294967296 : Nat) : Int) := by omega
  rw [c1, c2, c3, c4]
  clear c1 c2 c3 c4 ex ey l5 
  generalize x.toNat / 4294967296 = X at *
  generalize x.toNat % 4294967296 = Y at *
  generalize y.toNat / 4294967296 = U at *
  generalize y.toNat % 4294967296 = V at *
  rw [← Int.natCast_mul, ← Int.natCast_mul, ← Int.natCast_mul, ← Int.natCast_mul]
  generalize X * U = xu at *
  generalize X * V = xv at *
  generalize Y * U = yu at *
  generalize Y * V = yv at *
  rw [u64_small xu (by omega), u64_small xv (by omega), u64_small yu (by omega), u64_small yv (by omega)]
  have d1 : (xv : Int) + (yv : Int) / 4294967296 = ((xv + yv / 4294967296 : Nat) : Int) := by omega
  rw [d1, u64_small _ l2]
  generalize hm : xv + yv / 4294967296 = m at *
  have d2 : (yu : Int) + (m : Int) % 4294967296 = ((yu + m % 4294967296 : Nat) : Int) := by omega
  rw [d2, u64_small _ l3]
  generalize hn : yu + m % 4294967296 = n at *
  have d3 : (xu : Int) + (m : Int) / 4294967296 = ((xu + m / 4294967296 : Nat) : Int) := by omega
  rw [d3, u64_small (xu + m / 4294967296) (by omega)]
  have d4 : ((xu + m / 4294967296 : Nat) : Int) + (n : Int) / 4294967296 = ((xu + m / 4294967296 + n / 4294967296 : Nat) : Int) := by omega
  rw [d4, u64_small _ l4]
set_option maxRecDepth 100000 in
theorem wide_c (x y : BitVec 64) (w : World) : Calls Try.prog 36 #[.int .u64 x.toNat, .int .u64 y.toNat] w fun e w' => e = .returned (.tuple #[.int .u64 (hi64 x y).toNat, .int .u64 (x * y).toNat]) ∧ w' = w := by
  have x0 := x.isLt
  have y0 := y.isLt
  have h1 := hide (wide_int x y)
  have h2 := hide (mul64 x y)
  go_enter Try.func36, Try.ntmps36
  go_wp2
  refine bodyPost_ret (v := .tuple #[.int .u64 (hi64 x y).toNat, .int .u64 (x * y).toNat]) (by rw [← h1.out, ← h2.out]; simp [results, Try.results36, go_sem]) rfl ?_
  exact ⟨rfl, rfl⟩
/-- The high half, the signs taken off. -/
def hs (x y : BitVec 64) (s1 s2 : Bool) : BitVec 64 := hi64 x y - (if s1 && x.msb then y else 0) - (if s2 && y.msb then x else 0)
theorem and_least (x : BitVec 64) : bits .and .u64 (x.toNat : Int) 9223372036854775808 = if x.msb then 9223372036854775808 else 0 := by
  have h := and64 x 0x8000000000000000#64
  rw [show ((0x8000000000000000#64).toNat : Int) = 9223372036854775808 from by decide] at h
  rw [h]
  have e : (x &&& 0x8000000000000000#64) = if x.msb then 0x8000000000000000#64 else 0#64 := by
    apply BitVec.eq_of_getLsbD_eq
    intro i hi
    rw [BitVec.getLsbD_and, show (0x8000000000000000#64) = BitVec.twoPow 64 63 from by decide, BitVec.getLsbD_twoPow]
    by_cases k : i = 63
    · subst k
      rw [BitVec.msb_eq_getLsbD_last]
      cases x.getLsbD 63 <;> simp
    · have d : decide (63 = i) = false := decide_eq_false (fun e => k e.symm)
      rw [d]
      cases x.msb <;> simp [d]
  rw [e]
  cases x.msb <;> decide
set_option maxRecDepth 100000 in
theorem high_true_true (x y : BitVec 64) (w : World) : Calls Try.prog 29 #[.int .u64 x.toNat, .int .u64 y.toNat, .bool true, .bool true] w fun e w' => e = .returned (.int .u64 (hs x y true true).toNat) ∧ w' = w := by
  have W := hide (wide_c x y)
  have lx := and_least x
  have ly := and_least y
  unfold hs
  generalize hi64 x y = h at *
  generalize x * y = l at *
  have s1 := sub64 h y
  have s2 := sub64 h x
  have s3 := sub64 (h - y) x
  cases mx : x.msb <;> cases my : y.msb
  all_goals
    rw [mx] at lx
    rw [my] at ly
    simp only [Bool.and_true, Bool.and_false, Bool.true_and, Bool.false_and, if_true, if_false, reduceIte, Bool.false_eq_true] at lx ly ⊢
    try rw [show ∀ z : BitVec 64, z - 0 = z from fun z => BitVec.sub_zero z]
    try rw [show ∀ z : BitVec 64, z - 0 = z from fun z => BitVec.sub_zero z]
    (try generalize h - y - x = r3 at *)
    (try generalize h - y = r1 at *)
    (try generalize h - x = r2 at *)
    go_enter Try.func29, Try.ntmps29
    go_wp2_with fail
    refine (W.out _).mono ?_
    rintro e w' ⟨rfl, rfl⟩
    simp only []
    go_wp2_with fail
    go_ret
    exact ⟨rfl, rfl⟩
set_option maxRecDepth 100000 in
theorem high_true_false (x y : BitVec 64) (w : World) : Calls Try.prog 29 #[.int .u64 x.toNat, .int .u64 y.toNat, .bool true, .bool false] w fun e w' => e = .returned (.int .u64 (hs x y true false).toNat) ∧ w' = w := by
  have W := hide (wide_c x y)
  have lx := and_least x
  have ly := and_least y
  unfold hs
  generalize hi64 x y = h at *
  generalize x * y = l at *
  have s1 := sub64 h y
  have s2 := sub64 h x
  have s3 := sub64 (h - y) x
  cases mx : x.msb <;> cases my : y.msb
  all_goals
    rw [mx] at lx
    rw [my] at ly
    simp only [Bool.and_true, Bool.and_false, Bool.true_and, Bool.false_and, if_true, if_false, reduceIte, Bool.false_eq_true] at lx ly ⊢
    try rw [show ∀ z : BitVec 64, z - 0 = z from fun z => BitVec.sub_zero z]
    try rw [show ∀ z : BitVec 64, z - 0 = z from fun z => BitVec.sub_zero z]
    (try generalize h - y - x = r3 at *)
    (try generalize h - y = r1 at *)
    (try generalize h - x = r2 at *)
    go_enter Try.func29, Try.ntmps29
    go_wp2_with fail
    refine (W.out _).mono ?_
    rintro e w' ⟨rfl, rfl⟩
    simp only []
    go_wp2_with fail
    go_ret
    exact ⟨rfl, rfl⟩
set_option maxRecDepth 100000 in
theorem high_false_false (x y : BitVec 64) (w : World) : Calls Try.prog 29 #[.int .u64 x.toNat, .int .u64 y.toNat, .bool false, .bool false] w fun e w' => e = .returned (.int .u64 (hs x y false false).toNat) ∧ w' = w := by
  have W := hide (wide_c x y)
  have lx := and_least x
  have ly := and_least y
  unfold hs
  generalize hi64 x y = h at *
  generalize x * y = l at *
  have s1 := sub64 h y
  have s2 := sub64 h x
  have s3 := sub64 (h - y) x
  cases mx : x.msb <;> cases my : y.msb
  all_goals
    rw [mx] at lx
    rw [my] at ly
    simp only [Bool.and_true, Bool.and_false, Bool.true_and, Bool.false_and, if_true, if_false, reduceIte, Bool.false_eq_true] at lx ly ⊢
    try rw [show ∀ z : BitVec 64, z - 0 = z from fun z => BitVec.sub_zero z]
    try rw [show ∀ z : BitVec 64, z - 0 = z from fun z => BitVec.sub_zero z]
    (try generalize h - y - x = r3 at *)
    (try generalize h - y = r1 at *)
    (try generalize h - x = r2 at *)
    go_enter Try.func29, Try.ntmps29
    go_wp2_with fail
    refine (W.out _).mono ?_
    rintro e w' ⟨rfl, rfl⟩
    simp only []
    go_wp2_with fail
    go_ret
    exact ⟨rfl, rfl⟩
def Q (f : Int) (x y r : BitVec 64) : Prop := ∀ w : World, Calls Try.prog 28 #[.int .i64 f, .int .u64 x.toNat, .int .u64 y.toNat] w fun e w' => e = .returned (.int .u64 r.toNat) ∧ w' = w
def sdv (x y : BitVec 64) : BitVec 64 := BitVec.ofInt 64 (x.toInt.tdiv y.toInt)
def srm (x y : BitVec 64) : BitVec 64 := BitVec.ofInt 64 (x.toInt.tmod y.toInt)
theorem nat_ne (y : BitVec 64) (h : y ≠ 0#64) : ¬ ((y.toNat : Int) = 0) := fun e => h (BitVec.eq_of_toNat_eq (by simpa using e))
set_option maxRecDepth 100000 in
theorem quo_5 (x y : BitVec 64) (h : y ≠ 0#64) : Q 5 x y (x / y) := by
  intro w
  have hn := nat_ne y h
  have h1 : ((y.toNat : Int) == 0) = false := beq_eq_false_iff_ne.2 hn
  have e : IntKind.u64.wrap ((x.toNat : Int) / y.toNat) = ((x / y).toNat : Int) := by
    rw [BitVec.toNat_udiv, ← Int.natCast_ediv, u64_small]
    exact Nat.lt_of_le_of_lt (Nat.div_le_self _ _) x.isLt
  generalize x / y = r at *
  clear h
  go_enter Try.func28, Try.ntmps28
  go_wp2
  go_ret
  exact ⟨rfl, rfl⟩
set_option maxRecDepth 100000 in
theorem quo_7 (x y : BitVec 64) (h : y ≠ 0#64) : Q 7 x y (x % y) := by
  intro w
  have hn := nat_ne y h
  have h1 : ((y.toNat : Int) == 0) = false := beq_eq_false_iff_ne.2 hn
  have e : (x.toNat : Int) % y.toNat = ((x % y).toNat : Int) := by
    rw [BitVec.toNat_umod, ← Int.natCast_emod]
  have e2 : IntKind.u64.wrap ((x % y).toNat : Int) = ((x % y).toNat : Int) := u64_small _ (x % y).isLt
  generalize x % y = r at *
  clear h
  go_enter Try.func28, Try.ntmps28
  go_wp2
  go_ret
  exact ⟨congrArg (fun n => Ending.returned (.int .u64 n)) e, rfl⟩
theorem least_nat (x y : BitVec 64) (hz : ¬ (x = 0x8000000000000000#64 ∧ y = -1#64)) : ((x.toNat : Int) == 9223372036854775808) = false ∨ ((x.toNat : Int) == 9223372036854775808) = true ∧ ((y.toNat : Int) == 18446744073709551615) = false := by
  by_cases h1 : x = 0x8000000000000000#64
  · right
    refine ⟨by rw [h1]; decide, beq_eq_false_iff_ne.2 fun e => hz ⟨h1, BitVec.eq_of_toNat_eq ?_⟩⟩
    have : (-1#64).toNat = 18446744073709551615 := by decide
    omega
  · left
    refine beq_eq_false_iff_ne.2 fun e => h1 (BitVec.eq_of_toNat_eq ?_)
    have : (0x8000000000000000#64).toNat = 9223372036854775808 := by decide
    omega
set_option maxRecDepth 100000 in
theorem quo_4 (x y : BitVec 64) (h : y ≠ 0#64) : Q 4 x y (sdv x y) := by
  by_cases hz : x = 0x8000000000000000#64 ∧ y = -1#64
  · obtain ⟨rfl, rfl⟩ := hz
    rw [show sdv 0x8000000000000000#64 (-1#64) = 0x8000000000000000#64 from by decide]
    intro w
    rw [show (((0x8000000000000000#64).toNat : Nat) : Int) = 9223372036854775808 from by decide, show (((-1#64).toNat : Nat) : Int) = 18446744073709551615 from by decide]
    go_enter Try.func28, Try.ntmps28
    go_wp2
    go_ret
    exact ⟨rfl, rfl⟩
  intro w
  have hn := nat_ne y h
  have hm := toInt_ne y h
  have h1 : ((y.toNat : Int) == 0) = false := beq_eq_false_iff_ne.2 hn
  have hi := i64_toInt x
  have hj := i64_toInt y
  have hy0 : (y.toInt == 0) = false := beq_eq_false_iff_ne.2 hm
  have e : IntKind.u64.wrap (wrap64 (x.toInt.tdiv y.toInt)) = ((sdv x y).toNat : Int) := u64_ofInt _
  have e' : IntKind.u64.wrap (x.toInt.tdiv y.toInt) = ((sdv x y).toNat : Int) := by
    unfold sdv; rw [IntKind.wrap_u64, BitVec.toNat_ofInt]; omega
  generalize sdv x y = r at *
  have hl := least_nat x y hz
  clear h hz
  rcases hl with hl | ⟨hl, hl2⟩
  all_goals
    go_enter Try.func28, Try.ntmps28
    go_wp2
    go_ret
    first
    | exact ⟨rfl, rfl⟩
    | exact ⟨congrArg (fun n => Ending.returned (.int .u64 n)) e, rfl⟩
    | exact ⟨congrArg (fun n => Ending.returned (.int .u64 n)) e', rfl⟩
set_option maxRecDepth 100000 in
theorem quo_6 (x y : BitVec 64) (h : y ≠ 0#64) : Q 6 x y (srm x y) := by
  by_cases hz : x = 0x8000000000000000#64 ∧ y = -1#64
  · obtain ⟨rfl, rfl⟩ := hz
    rw [show srm 0x8000000000000000#64 (-1#64) = 0#64 from by decide]
    intro w
    rw [show (((0x8000000000000000#64).toNat : Nat) : Int) = 9223372036854775808 from by decide, show (((-1#64).toNat : Nat) : Int) = 18446744073709551615 from by decide]
    go_enter Try.func28, Try.ntmps28
    go_wp2
    go_ret
    exact ⟨rfl, rfl⟩
  intro w
  have hn := nat_ne y h
  have hm := toInt_ne y h
  have h1 : ((y.toNat : Int) == 0) = false := beq_eq_false_iff_ne.2 hn
  have hi := i64_toInt x
  have hj := i64_toInt y
  have hy0 : (y.toInt == 0) = false := beq_eq_false_iff_ne.2 hm
  have e : IntKind.u64.wrap (wrap64 (x.toInt.tmod y.toInt)) = ((srm x y).toNat : Int) := u64_ofInt _
  have e' : IntKind.u64.wrap (x.toInt.tmod y.toInt) = ((srm x y).toNat : Int) := by
    unfold srm; rw [IntKind.wrap_u64, BitVec.toNat_ofInt]; omega
  generalize srm x y = r at *
  have hl := least_nat x y hz
  clear h hz
  rcases hl with hl | ⟨hl, hl2⟩
  all_goals
    go_enter Try.func28, Try.ntmps28
    go_wp2
    go_ret
    first
    | exact ⟨rfl, rfl⟩
    | exact ⟨congrArg (fun n => Ending.returned (.int .u64 n)) e, rfl⟩
    | exact ⟨congrArg (fun n => Ending.returned (.int .u64 n)) e', rfl⟩
set_option maxRecDepth 100000 in
theorem quo_4z (x : BitVec 64) : Q 4 x 0#64 (-1#64) := by
  intro w
  rw [show (((0#64).toNat : Nat) : Int) = 0 from rfl, show (((-1#64).toNat : Nat) : Int) = 18446744073709551615 from by decide]
  go_enter Try.func28, Try.ntmps28
  go_wp2
  go_ret
  exact ⟨rfl, rfl⟩
set_option maxRecDepth 100000 in
theorem quo_5z (x : BitVec 64) : Q 5 x 0#64 (-1#64) := by
  intro w
  rw [show (((0#64).toNat : Nat) : Int) = 0 from rfl, show (((-1#64).toNat : Nat) : Int) = 18446744073709551615 from by decide]
  go_enter Try.func28, Try.ntmps28
  go_wp2
  go_ret
  exact ⟨rfl, rfl⟩
set_option maxRecDepth 100000 in
theorem quo_6z (x : BitVec 64) : Q 6 x 0#64 x := by
  intro w
  rw [show (((0#64).toNat : Nat) : Int) = 0 from rfl]
  go_enter Try.func28, Try.ntmps28
  go_wp2
  go_ret
  exact ⟨rfl, rfl⟩
set_option maxRecDepth 100000 in
theorem quo_7z (x : BitVec 64) : Q 7 x 0#64 x := by
  intro w
  rw [show (((0#64).toNat : Nat) : Int) = 0 from rfl]
  go_enter Try.func28, Try.ntmps28
  go_wp2
  go_ret
  exact ⟨rfl, rfl⟩
set_option maxRecDepth 100000 in
theorem quo_other (f : Int) (x y : BitVec 64) (h : f < 4 ∨ 7 < f) : Q f x y 0#64 := by
  intro w
  rcases h with h | h
  · have d : decide (f < 4) = true := decide_eq_true h
    go_enter Try.func28, Try.ntmps28
    go_wp2
    go_ret
    exact ⟨rfl, rfl⟩
  · have d : decide (f < 4) = false := decide_eq_false (by omega)
    have d2 : decide (7 < f) = true := decide_eq_true h
    go_enter Try.func28, Try.ntmps28
    go_wp2
    go_ret
    exact ⟨rfl, rfl⟩
def L (f : Int) (x y r : BitVec 64) : Prop := ∀ w : World, Calls Try.prog 22 #[.int .i64 f, .int .u64 x.toNat, .int .u64 y.toNat] w fun e w' => e = .returned (.int .u64 r.toNat) ∧ w' = w
def R (f : Int) (word : Bool) (x y r : BitVec 64) : Prop := ∀ w : World, Calls Try.prog 12 #[.int .i64 f, .bool word, .int .u64 x.toNat, .int .u64 y.toNat] w fun e w' => e = .returned (.int .u64 r.toNat) ∧ w' = w
def Sh (f : Int) (x y : BitVec 32) (r : BitVec 64) : Prop := ∀ w : World, Calls Try.prog 21 #[.int .i64 f, .int .u32 x.toNat, .int .u32 y.toNat] w fun e w' => e = .returned (.int .u64 r.toNat) ∧ w' = w
set_option maxRecDepth 100000 in
theorem long_0 (x y : BitVec 64) : L 0 x y (x * y) := by
  intro w
  have e := mul64 x y
  generalize x * y = r at *
  go_enter Try.func22, Try.ntmps22
  go_wp2
  go_ret
  exact ⟨rfl, rfl⟩
set_option maxRecDepth 100000 in
theorem long_1 (x y : BitVec 64) : L 1 x y (hs x y true true) := by
  intro w
  have H := hide (high_true_true x y)
  generalize hs x y true true = r at *
  go_enter Try.func22, Try.ntmps22
  go_wp2_with fail
  refine (H.out _).mono ?_
  rintro e w' ⟨rfl, rfl⟩
  simp only []
  go_wp2_with fail
  go_ret
  exact ⟨rfl, rfl⟩
set_option maxRecDepth 100000 in
theorem long_2 (x y : BitVec 64) : L 2 x y (hs x y true false) := by
  intro w
  have H := hide (high_true_false x y)
  generalize hs x y true false = r at *
  go_enter Try.func22, Try.ntmps22
  go_wp2_with fail
  refine (H.out _).mono ?_
  rintro e w' ⟨rfl, rfl⟩
  simp only []
  go_wp2_with fail
  go_ret
  exact ⟨rfl, rfl⟩
set_option maxRecDepth 100000 in
theorem long_3 (x y : BitVec 64) : L 3 x y (hs x y false false) := by
  intro w
  have H := hide (high_false_false x y)
  generalize hs x y false false = r at *
  go_enter Try.func22, Try.ntmps22
  go_wp2_with fail
  refine (H.out _).mono ?_
  rintro e w' ⟨rfl, rfl⟩
  simp only []
  go_wp2_with fail
  go_ret
  exact ⟨rfl, rfl⟩
set_option maxRecDepth 100000 in
theorem long_q (f : Int) (x y r : BitVec 64) (h0 : f ≠ 0) (h1 : f ≠ 1) (h2 : f ≠ 2) (h3 : f ≠ 3) (h : Q f x y r) : L f x y r := by
  intro w
  have H := hide h
  clear h
  go_enter Try.func22, Try.ntmps22
  go_wp2_with fail
  refine (H.out _).mono ?_
  rintro e w' ⟨rfl, rfl⟩
  simp only []
  go_wp2_with fail
  go_ret
  exact ⟨rfl, rfl⟩
set_option maxRecDepth 100000 in
theorem result_long (f : Int) (x y r : BitVec 64) (h : L f x y r) : R f false x y r := by
  intro w
  have H := hide h
  clear h
  go_enter Try.func12, Try.ntmps12
  go_wp2_with fail
  refine (H.out _).mono ?_
  rintro e w' ⟨rfl, rfl⟩
  simp only []
  go_wp2_with fail
  go_ret
  exact ⟨rfl, rfl⟩
set_option maxRecDepth 100000 in
theorem result_short (f : Int) (x y r : BitVec 64) (h : Sh f (x.setWidth 32) (y.setWidth 32) r) : R f true x y r := by
  intro w
  have hx := hide (u32_low' x)
  have hy := hide (u32_low' y)
  generalize x.setWidth 32 = xs at hx h
  generalize y.setWidth 32 = ys at hy h
  have H := hide h
  clear h
  go_enter Try.func12, Try.ntmps12
  go_wp2_with fail
  rw [hx.out, hy.out]
  refine (H.out _).mono ?_
  rintro e w' ⟨rfl, rfl⟩
  simp only []
  go_wp2_with fail
  go_ret
  exact ⟨rfl, rfl⟩
theorem sext_twice (r : BitVec 32) : IntKind.u64.wrap (wrap64 r.toInt) = ((r.signExtend 64).toNat : Int) := by rw [wrap_twice, u64_sext]
theorem mul32m (x y : BitVec 32) : (x.toNat : Int) * y.toNat % 4294967296 = ((x * y).toNat : Int) := by rw [← Int.natCast_mul, BitVec.toNat_mul]; omega
set_option maxRecDepth 100000 in
theorem short_0 (x y : BitVec 32) : Sh 0 x y ((x * y).signExtend 64) := by
  intro w
  have e := hide (mul32m x y)
  have hr := hide (i32_toInt (x * y))
  have hw := hide (sext_twice (x * y))
  have hi := i32_toInt x
  have hj := i32_toInt y
  generalize (x * y).signExtend 64 = rs at hw ⊢
  generalize x * y = r at *
  go_enter Try.func21, Try.ntmps21
  go_wp2
  go_ret
  refine ⟨congrArg (fun n => Ending.returned (.int .u64 n)) ?_, rfl⟩
  have h1 : wrap32 (r.toNat : Int) = r.toInt := by
    have := hr.out
    rw [IntKind.wrap_i32] at this
    unfold wrap32
    exact this
  rw [e.out, h1, hw.out]
theorem zext_nat (x : BitVec 32) : (x.toNat : Int) = ((x.setWidth 64).toNat : Int) := by rw [BitVec.toNat_setWidth]; have := x.isLt; omega
set_option maxRecDepth 100000 in
theorem short_4 (x y : BitVec 32) (r : BitVec 64) (h : Q 4 (x.signExtend 64) (y.signExtend 64) r) : Sh 4 x y ((r.setWidth 32).signExtend 64) := by
  intro w
  have hi := i32_toInt x
  have hj := i32_toInt y
  have hr := i32_toInt (r.setWidth 32)
  have hl := u32_low' r
  have hw := hide (sext_twice (r.setWidth 32))
  have hu := hide (sext_twice x)
  have hv := hide (sext_twice y)
  generalize r.setWidth 32 = rs at *
  generalize rs.signExtend 64 = rr at *
  generalize x.signExtend 64 = xx at *
  generalize y.signExtend 64 = yy at *
  have H := hide h
  clear h
  go_enter Try.func21, Try.ntmps21
  go_wp2_with fail
  rw [hu.out, hv.out]
  refine (H.out _).mono ?_
  rintro e w' ⟨rfl, rfl⟩
  simp only []
  go_wp2_with fail
  go_ret
  exact ⟨congrArg (fun n => Ending.returned (.int .u64 n)) hw.out, rfl⟩
set_option maxRecDepth 100000 in
theorem short_6 (x y : BitVec 32) (r : BitVec 64) (h : Q 6 (x.signExtend 64) (y.signExtend 64) r) : Sh 6 x y ((r.setWidth 32).signExtend 64) := by
  intro w
  have hi := i32_toInt x
  have hj := i32_toInt y
  have hr := i32_toInt (r.setWidth 32)
  have hl := u32_low' r
  have hw := hide (sext_twice (r.setWidth 32))
  have hu := hide (sext_twice x)
  have hv := hide (sext_twice y)
  generalize r.setWidth 32 = rs at *
  generalize rs.signExtend 64 = rr at *
  generalize x.signExtend 64 = xx at *
  generalize y.signExtend 64 = yy at *
  have H := hide h
  clear h
  go_enter Try.func21, Try.ntmps21
  go_wp2_with fail
  rw [hu.out, hv.out]
  refine (H.out _).mono ?_
  rintro e w' ⟨rfl, rfl⟩
  simp only []
  go_wp2_with fail
  go_ret
  exact ⟨congrArg (fun n => Ending.returned (.int .u64 n)) hw.out, rfl⟩
set_option maxRecDepth 100000 in
theorem short_5 (x y : BitVec 32) (r : BitVec 64) (h : Q 5 (x.setWidth 64) (y.setWidth 64) r) : Sh 5 x y ((r.setWidth 32).signExtend 64) := by
  intro w
  have hi := i32_toInt x
  have hj := i32_toInt y
  have hr := i32_toInt (r.setWidth 32)
  have hl := u32_low' r
  have hw := hide (sext_twice (r.setWidth 32))
  have hu := hide (zext_nat x)
  have hv := hide (zext_nat y)
  generalize r.setWidth 32 = rs at *
  generalize rs.signExtend 64 = rr at *
  generalize x.setWidth 64 = xx at *
  generalize y.setWidth 64 = yy at *
  have H := hide h
  clear h
  go_enter Try.func21, Try.ntmps21
  go_wp2_with fail
  rw [hu.out, hv.out]
  refine (H.out _).mono ?_
  rintro e w' ⟨rfl, rfl⟩
  simp only []
  go_wp2_with fail
  go_ret
  exact ⟨congrArg (fun n => Ending.returned (.int .u64 n)) hw.out, rfl⟩
set_option maxRecDepth 100000 in
theorem short_7 (x y : BitVec 32) (r : BitVec 64) (h : Q 7 (x.setWidth 64) (y.setWidth 64) r) : Sh 7 x y ((r.setWidth 32).signExtend 64) := by
  intro w
  have hi := i32_toInt x
  have hj := i32_toInt y
  have hr := i32_toInt (r.setWidth 32)
  have hl := u32_low' r
  have hw := hide (sext_twice (r.setWidth 32))
  have hu := hide (zext_nat x)
  have hv := hide (zext_nat y)
  generalize r.setWidth 32 = rs at *
  generalize rs.signExtend 64 = rr at *
  generalize x.setWidth 64 = xx at *
  generalize y.setWidth 64 = yy at *
  have H := hide h
  clear h
  go_enter Try.func21, Try.ntmps21
  go_wp2_with fail
  rw [hu.out, hv.out]
  refine (H.out _).mono ?_
  rintro e w' ⟨rfl, rfl⟩
  simp only []
  go_wp2_with fail
  go_ret
  exact ⟨congrArg (fun n => Ending.returned (.int .u64 n)) hw.out, rfl⟩
set_option maxRecDepth 100000 in
theorem short_other (f : Int) (x y : BitVec 32) (h0 : f ≠ 0) (h4 : f ≠ 4) (h5 : f ≠ 5) (h6 : f ≠ 6) (h7 : f ≠ 7) : Sh f x y 0#64 := by
  intro w
  go_enter Try.func21, Try.ntmps21
  go_wp2
  go_ret
  exact ⟨rfl, rfl⟩
end Go.Proofs.Ytngegkonijljnaa


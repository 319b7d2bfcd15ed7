/- CONTRACTS OF THE DOCUMENT'S full AND Result; MulResults: the walk. -/
import Derived.Test.YtngegkonijljnaaMulX
import Derived.Test.YtngegkonijljnaaMulSmallW
namespace Go.Proofs.Ytngegkonijljnaa
open Go.RowKit
set_option linter.unusedVariables false
set_option linter.unusedSimpArgs false
set_option maxHeartbeats 1600000
theorem zx_nat (x : BitVec 64) : (x.setWidth 128).toNat = x.toNat := by rw [BitVec.toNat_setWidth]; have := x.isLt; omega
theorem sx_nat (x : BitVec 64) : (x.signExtend 128).toNat = x.toNat + (if x.msb then 1 else 0) * (2 ^ 128 - 2 ^ 64) := by
  rw [BitVec.toNat_signExtend, zx_nat]
  cases x.msb <;> simp
theorem lo_mul (x y : BitVec 64) : lo (x.setWidth 128 * y.setWidth 128) = x * y := by
  apply BitVec.eq_of_toNat_eq
  rw [lo_nat, BitVec.toNat_mul, BitVec.toNat_mul, zx_nat, zx_nat]
  omega
theorem hs_nat (x y : BitVec 64) (sa sb : Nat) (s1 s2 : Bool) (h1 : sa = if s1 && x.msb then 1 else 0) (h2 : sb = if s2 && y.msb then 1 else 0) :
    (hs x y s1 s2).toNat = (x.toNat * y.toNat / 2 ^ 64 + (2 ^ 64 - sa * y.toNat) + (2 ^ 64 - sb * x.toNat)) % 2 ^ 64 := by
  unfold hs
  rw [BitVec.toNat_sub, BitVec.toNat_sub, hi64_nat]
  have a := x.isLt
  have b := y.isLt
  have c := hi64_lt x y
  generalize x.toNat * y.toNat = P at *
  subst h1 h2
  cases (s1 && x.msb) <;> cases (s2 && y.msb) <;> simp <;> omega
theorem hi_mul (x y : BitVec 64) (u v : BitVec 128) (s1 s2 : Bool) (hu : u.toNat = x.toNat + (if s1 && x.msb then 1 else 0) * (2 ^ 128 - 2 ^ 64)) (hv : v.toNat = y.toNat + (if s2 && y.msb then 1 else 0) * (2 ^ 128 - 2 ^ 64)) : hi (u * v) = hs x y s1 s2 := by
  apply BitVec.eq_of_toNat_eq
  rw [hs_nat x y _ _ s1 s2 rfl rfl, hi_nat, BitVec.toNat_mul, hu, hv]
  exact high_law x.toNat y.toNat (x.toNat * y.toNat) _ _ x.isLt y.isLt rfl (by cases (s1 && x.msb) <;> simp) (by cases (s2 && y.msb) <;> simp)
theorem hi_ss (x y : BitVec 64) : hi (x.signExtend 128 * y.signExtend 128) = hs x y true true := hi_mul x y _ _ true true (by rw [sx_nat, Bool.true_and]) (by rw [sx_nat, Bool.true_and])
theorem hi_su (x y : BitVec 64) : hi (x.signExtend 128 * y.setWidth 128) = hs x y true false := hi_mul x y _ _ true false (by rw [sx_nat, Bool.true_and]) (by rw [zx_nat]; simp)
theorem hi_uu (x y : BitVec 64) : hi (x.setWidth 128 * y.setWidth 128) = hs x y false false := hi_mul x y _ _ false false (by rw [zx_nat]; simp) (by rw [zx_nat]; simp)
theorem mag_nat (x : BitVec 64) : x.toInt = if x.msb then -((mag x).toNat : Int) else ((mag x).toNat : Int) := by
  unfold mag
  have m := BitVec.msb_eq_decide x
  have l := x.isLt
  rw [BitVec.toInt_eq_toNat_cond]
  cases h : x.msb
  · rw [h] at m
    have := of_decide_eq_false m.symm
    simp; omega
  · rw [h] at m
    have := of_decide_eq_true m.symm
    simp only [if_true]
    rw [if_neg (by omega), BitVec.toNat_neg]; omega
theorem mag_ne (y : BitVec 64) (h : y ≠ 0#64) : mag y ≠ 0#64 := by
  intro e
  have := mag_nat y
  rw [e] at this
  refine toInt_ne y h ?_
  rw [this]; cases y.msb <;> rfl
theorem ofInt_div (a b : BitVec 64) : BitVec.ofInt 64 ((a.toNat : Int).tdiv b.toNat) = a / b := by
  rw [← Int.ofNat_tdiv, BitVec.ofInt_natCast]
  apply BitVec.eq_of_toNat_eq
  rw [BitVec.toNat_ofNat, BitVec.toNat_udiv]
  exact Nat.mod_eq_of_lt (Nat.lt_of_le_of_lt (Nat.div_le_self _ _) a.isLt)
theorem ofInt_mod (a b : BitVec 64) : BitVec.ofInt 64 ((a.toNat : Int).tmod b.toNat) = a % b := by
  rw [← Int.ofNat_tmod, BitVec.ofInt_natCast]
  apply BitVec.eq_of_toNat_eq
  rw [BitVec.toNat_ofNat, BitVec.toNat_umod]
  exact Nat.mod_eq_of_lt (Nat.lt_of_le_of_lt (Nat.mod_le _ _) a.isLt)
theorem sdv_mag (x y : BitVec 64) : sdv x y = if x.msb != y.msb then -(mag x / mag y) else mag x / mag y := by
  unfold sdv
  rw [mag_nat x, mag_nat y]
  cases x.msb <;> cases y.msb <;> simp only [Bool.false_eq_true, if_true, if_false, Int.neg_tdiv, Int.tdiv_neg, Int.neg_neg, BitVec.ofInt_neg, ofInt_div] <;> rfl
theorem srm_mag (x y : BitVec 64) : srm x y = if x.msb then -(mag x % mag y) else mag x % mag y := by
  unfold srm
  rw [mag_nat x, mag_nat y]
  cases x.msb <;> cases y.msb <;> simp only [Bool.false_eq_true, if_true, if_false, Int.neg_tmod, Int.tmod_neg, BitVec.ofInt_neg, ofInt_mod]
def RF (f : Int) (x y r : BitVec 64) : Prop := ∀ w : World, Calls Try.prog 23 #[.int .i64 f, .int .u64 x.toNat, .int .u64 y.toNat] w fun e w' => e = .returned (.int .u64 r.toNat) ∧ Below w.heap.size w w'
set_option maxRecDepth 100000 in
theorem rf_0 (x y : BitVec 64) : RF 0 x y (x * y) := by
  intro w
  rw [← lo_mul x y]
  have E1 := extend_u x
  have E2 := extend_u y
  generalize x.setWidth 128 = u at *
  skip
  generalize y.setWidth 128 = v at *
  have P := product_c u v
  unfold D at E1 E2 P
  generalize hi (u * v) = ph at *
  generalize lo (u * v) = pl at *
  replace E1 := hide E1
  replace E2 := hide E2
  replace P := hide P
  have hfd : ∀ w : World, (Instr.field 51 (.agg #[.int .u64 ph.toNat, .int .u64 pl.toNat]) 1).run Try.prog w = .ok (.int .u64 pl.toNat) w := fun _ => by kernel_rfl
  go_enter Try.func23, Try.ntmps23
  go_wp2_with fail
  refine (E1.out _).mono ?_
  rintro e w1 ⟨rfl, hb⟩
  have B1 := hide hb
  clear hb
  simp only []
  go_wp2_with fail
  refine (E2.out _).mono ?_
  rintro e w2 ⟨rfl, hb⟩
  have B2 := hide (B1.out.trans (hb.mono B1.out.size))
  clear hb
  simp only []
  go_wp2_with fail
  refine (P.out _).mono ?_
  rintro e w3 ⟨rfl, hb⟩
  have B3 := hide (B2.out.trans (hb.mono B2.out.size))
  clear hb
  simp only []
  go_wp2_with fail
  go_ret
  exact ⟨rfl, B3.out⟩
set_option maxRecDepth 100000 in
theorem rf_1 (x y : BitVec 64) : RF 1 x y (hs x y true true) := by
  intro w
  rw [← hi_ss x y]
  have E1 := extend_s x
  have E2 := extend_s y
  generalize x.signExtend 128 = u at *
  skip
  generalize y.signExtend 128 = v at *
  have P := product_c u v
  unfold D at E1 E2 P
  generalize hi (u * v) = ph at *
  generalize lo (u * v) = pl at *
  replace E1 := hide E1
  replace E2 := hide E2
  replace P := hide P
  have hfd : ∀ w : World, (Instr.field 51 (.agg #[.int .u64 ph.toNat, .int .u64 pl.toNat]) 0).run Try.prog w = .ok (.int .u64 ph.toNat) w := fun _ => by kernel_rfl
  go_enter Try.func23, Try.ntmps23
  go_wp2_with fail
  refine (E1.out _).mono ?_
  rintro e w1 ⟨rfl, hb⟩
  have B1 := hide hb
  clear hb
  simp only []
  go_wp2_with fail
  refine (E2.out _).mono ?_
  rintro e w2 ⟨rfl, hb⟩
  have B2 := hide (B1.out.trans (hb.mono B1.out.size))
  clear hb
  simp only []
  go_wp2_with fail
  refine (P.out _).mono ?_
  rintro e w3 ⟨rfl, hb⟩
  have B3 := hide (B2.out.trans (hb.mono B2.out.size))
  clear hb
  simp only []
  go_wp2_with fail
  go_ret
  exact ⟨rfl, B3.out⟩
set_option maxRecDepth 100000 in
theorem rf_2 (x y : BitVec 64) : RF 2 x y (hs x y true false) := by
  intro w
  rw [← hi_su x y]
  have E1 := extend_s x
  have E2 := extend_u y
  generalize x.signExtend 128 = u at *
  skip
  generalize y.setWidth 128 = v at *
  have P := product_c u v
  unfold D at E1 E2 P
  generalize hi (u * v) = ph at *
  generalize lo (u * v) = pl at *
  replace E1 := hide E1
  replace E2 := hide E2
  replace P := hide P
  have hfd : ∀ w : World, (Instr.field 51 (.agg #[.int .u64 ph.toNat, .int .u64 pl.toNat]) 0).run Try.prog w = .ok (.int .u64 ph.toNat) w := fun _ => by kernel_rfl
  go_enter Try.func23, Try.ntmps23
  go_wp2_with fail
  refine (E1.out _).mono ?_
  rintro e w1 ⟨rfl, hb⟩
  have B1 := hide hb
  clear hb
  simp only []
  go_wp2_with fail
  refine (E2.out _).mono ?_
  rintro e w2 ⟨rfl, hb⟩
  have B2 := hide (B1.out.trans (hb.mono B1.out.size))
  clear hb
  simp only []
  go_wp2_with fail
  refine (P.out _).mono ?_
  rintro e w3 ⟨rfl, hb⟩
  have B3 := hide (B2.out.trans (hb.mono B2.out.size))
  clear hb
  simp only []
  go_wp2_with fail
  go_ret
  exact ⟨rfl, B3.out⟩
set_option maxRecDepth 100000 in
theorem rf_3 (x y : BitVec 64) : RF 3 x y (hs x y false false) := by
  intro w
  rw [← hi_uu x y]
  have E1 := extend_u x
  have E2 := extend_u y
  generalize x.setWidth 128 = u at *
  skip
  generalize y.setWidth 128 = v at *
  have P := product_c u v
  unfold D at E1 E2 P
  generalize hi (u * v) = ph at *
  generalize lo (u * v) = pl at *
  replace E1 := hide E1
  replace E2 := hide E2
  replace P := hide P
  have hfd : ∀ w : World, (Instr.field 51 (.agg #[.int .u64 ph.toNat, .int .u64 pl.toNat]) 0).run Try.prog w = .ok (.int .u64 ph.toNat) w := fun _ => by kernel_rfl
  go_enter Try.func23, Try.ntmps23
  go_wp2_with fail
  refine (E1.out _).mono ?_
  rintro e w1 ⟨rfl, hb⟩
  have B1 := hide hb
  clear hb
  simp only []
  go_wp2_with fail
  refine (E2.out _).mono ?_
  rintro e w2 ⟨rfl, hb⟩
  have B2 := hide (B1.out.trans (hb.mono B1.out.size))
  clear hb
  simp only []
  go_wp2_with fail
  refine (P.out _).mono ?_
  rintro e w3 ⟨rfl, hb⟩
  have B3 := hide (B2.out.trans (hb.mono B2.out.size))
  clear hb
  simp only []
  go_wp2_with fail
  go_ret
  exact ⟨rfl, B3.out⟩
set_option maxRecDepth 100000 in
theorem rf_5z (x : BitVec 64) : RF 5 x 0#64 (-1#64) := by
  intro w
  rw [show (((0#64).toNat : Nat) : Int) = 0 from rfl, show (((-1#64).toNat : Nat) : Int) = 18446744073709551615 from by decide]
  go_enter Try.func23, Try.ntmps23
  go_wp2
  go_ret
  exact ⟨rfl, Below.refl _ _⟩
set_option maxRecDepth 100000 in
theorem rf_4z (x : BitVec 64) : RF 4 x 0#64 (-1#64) := by
  intro w
  rw [show (((0#64).toNat : Nat) : Int) = 0 from rfl, show (((-1#64).toNat : Nat) : Int) = 18446744073709551615 from by decide]
  go_enter Try.func23, Try.ntmps23
  go_wp2
  go_ret
  exact ⟨rfl, Below.refl _ _⟩
set_option maxRecDepth 100000 in
theorem rf_7z (x : BitVec 64) : RF 7 x 0#64 x := by
  intro w
  rw [show (((0#64).toNat : Nat) : Int) = 0 from rfl]
  go_enter Try.func23, Try.ntmps23
  go_wp2
  go_ret
  exact ⟨rfl, Below.refl _ _⟩
set_option maxRecDepth 100000 in
theorem rf_6z (x : BitVec 64) : RF 6 x 0#64 x := by
  intro w
  rw [show (((0#64).toNat : Nat) : Int) = 0 from rfl]
  go_enter Try.func23, Try.ntmps23
  go_wp2
  go_ret
  exact ⟨rfl, Below.refl _ _⟩
set_option maxRecDepth 100000 in
theorem rf_5 (x y : BitVec 64) (h : y ≠ 0#64) : RF 5 x y (x / y) := by
  intro w
  have hn := nat_ne y h
  have h1 : ((y.toNat : Int) == 0) = false := beq_eq_false_iff_ne.2 hn
  have Qc := hide (rquo_c x y h)
  clear h
  generalize x / y = q at *
  generalize x % y = r at *
  go_enter Try.func23, Try.ntmps23
  go_wp2_with fail
  refine (Qc.out _).mono ?_
  rintro e w1 ⟨rfl, rfl⟩
  simp only []
  go_wp2_with fail
  go_ret
  exact ⟨rfl, Below.refl _ _⟩
set_option maxRecDepth 100000 in
theorem rf_7 (x y : BitVec 64) (h : y ≠ 0#64) : RF 7 x y (x % y) := by
  intro w
  have hn := nat_ne y h
  have h1 : ((y.toNat : Int) == 0) = false := beq_eq_false_iff_ne.2 hn
  have Qc := hide (rquo_c x y h)
  clear h
  generalize x / y = q at *
  generalize x % y = r at *
  go_enter Try.func23, Try.ntmps23
  go_wp2_with fail
  refine (Qc.out _).mono ?_
  rintro e w1 ⟨rfl, rfl⟩
  simp only []
  go_wp2_with fail
  go_ret
  exact ⟨rfl, Below.refl _ _⟩
set_option maxRecDepth 100000 in
theorem rf_4 (x y : BitVec 64) (h : y ≠ 0#64) : RF 4 x y (sdv x y) := by
  intro w
  have hn := nat_ne y h
  have h1 : ((y.toNat : Int) == 0) = false := beq_eq_false_iff_ne.2 hn
  have SX := hide (size_c x)
  have SY := hide (size_c y)
  have Qc := hide (rquo_c (mag x) (mag y) (mag_ne y h))
  rw [sdv_mag x y]
  have tx := shr_top x
  have ty := shr_top y
  have ng := neg64 (mag x / mag y)
  clear h
  generalize mag x / mag y = q at *
  generalize mag x % mag y = r at *
  generalize mag x = mx at *
  generalize mag y = my at *
  cases hx : x.msb <;> cases hy : y.msb
  all_goals
    rw [hx] at tx
    rw [hy] at ty
    clear hx hy
    simp only [Bool.false_eq_true, if_false, if_true, bne_self_eq_false, Bool.bne_true, Bool.bne_false, Bool.not_false, Bool.not_true, Bool.true_bne, Bool.false_bne] at tx ty ⊢
    (try generalize -q = nq at *)
    (try generalize -r = nr at *)
    go_enter Try.func23, Try.ntmps23
    go_wp2_with fail
    refine (SX.out _).mono ?_
    rintro e w1 ⟨rfl, rfl⟩
    simp only []
    go_wp2_with fail
    refine (SY.out _).mono ?_
    rintro e w1 ⟨rfl, rfl⟩
    simp only []
    go_wp2_with fail
    refine (Qc.out _).mono ?_
    rintro e w1 ⟨rfl, rfl⟩
    simp only []
    go_wp2_with fail
    go_ret
    first
    | exact ⟨rfl, Below.refl _ _⟩
    | exact ⟨congrArg (fun n => Ending.returned (.int .u64 n)) ng, Below.refl _ _⟩
set_option maxRecDepth 100000 in
theorem rf_6 (x y : BitVec 64) (h : y ≠ 0#64) : RF 6 x y (srm x y) := by
  intro w
  have hn := nat_ne y h
  have h1 : ((y.toNat : Int) == 0) = false := beq_eq_false_iff_ne.2 hn
  have SX := hide (size_c x)
  have SY := hide (size_c y)
  have Qc := hide (rquo_c (mag x) (mag y) (mag_ne y h))
  rw [srm_mag x y]
  have tx := shr_top x
  have ty := shr_top y
  have ng := neg64 (mag x % mag y)
  clear h
  generalize mag x / mag y = q at *
  generalize mag x % mag y = r at *
  generalize mag x = mx at *
  generalize mag y = my at *
  cases hx : x.msb <;> cases hy : y.msb
  all_goals
    rw [hx] at tx
    rw [hy] at ty
    clear hx hy
    simp only [Bool.false_eq_true, if_false, if_true, bne_self_eq_false, Bool.bne_true, Bool.bne_false, Bool.not_false, Bool.not_true, Bool.true_bne, Bool.false_bne] at tx ty ⊢
    (try generalize -q = nq at *)
    (try generalize -r = nr at *)
    go_enter Try.func23, Try.ntmps23
    go_wp2_with fail
    refine (SX.out _).mono ?_
    rintro e w1 ⟨rfl, rfl⟩
    simp only []
    go_wp2_with fail
    refine (SY.out _).mono ?_
    rintro e w1 ⟨rfl, rfl⟩
    simp only []
    go_wp2_with fail
    refine (Qc.out _).mono ?_
    rintro e w1 ⟨rfl, rfl⟩
    simp only []
    go_wp2_with fail
    go_ret
    first
    | exact ⟨rfl, Below.refl _ _⟩
    | exact ⟨congrArg (fun n => Ending.returned (.int .u64 n)) ng, Below.refl _ _⟩
set_option maxRecDepth 100000 in
theorem rf_other (f : Int) (x y : BitVec 64) (h0 : f ≠ 0) (h1 : f ≠ 1) (h2 : f ≠ 2) (h3 : f ≠ 3) (h5 : f ≠ 5) (h7 : f ≠ 7) (h4 : f ≠ 4) (h6 : f ≠ 6) : RF f x y 0#64 := by
  intro w
  go_enter Try.func23, Try.ntmps23
  go_wp2
  go_ret
  exact ⟨rfl, Below.refl _ _⟩
def RD (f : Int) (word : Bool) (x y r : BitVec 64) : Prop := ∀ w : World, Calls Try.prog 13 #[.int .i64 f, .bool word, .int .u64 x.toNat, .int .u64 y.toNat] w fun e w' => e = .returned (.int .u64 r.toNat) ∧ Below w.heap.size w w'
set_option maxRecDepth 100000 in
theorem rd_full (f : Int) (x y r : BitVec 64) (h : RF f x y r) : RD f false x y r := by
  intro w
  replace h := hide h
  go_enter Try.func13, Try.ntmps13
  go_wp2_with fail
  refine (h.out _).mono ?_
  rintro e w1 ⟨rfl, hb⟩
  have B1 := hide hb
  clear hb
  simp only []
  go_wp2_with fail
  go_ret
  exact ⟨rfl, B1.out⟩
set_option maxRecDepth 100000 in
theorem rd_0 (x y r : BitVec 64) (h : RF 0 ((x.setWidth 32).signExtend 64) ((y.setWidth 32).signExtend 64) r) : RD 0 true x y ((r.setWidth 32).signExtend 64) := by
  intro w
  replace h := hide h
  have EX := hide (sext32_c x)
  have EY := hide (sext32_c y)
  have ER := hide (sext32_c r)
  generalize (x.setWidth 32).signExtend 64 = xx at *
  generalize (y.setWidth 32).signExtend 64 = yy at *
  generalize (r.setWidth 32).signExtend 64 = rr at *
  go_enter Try.func13, Try.ntmps13
  go_wp2_with fail
  refine (EX.out _).mono ?_
  rintro e w1 ⟨rfl, rfl⟩
  simp only []
  go_wp2_with fail
  refine (EY.out _).mono ?_
  rintro e w1 ⟨rfl, rfl⟩
  simp only []
  go_wp2_with fail
  refine (h.out _).mono ?_
  rintro e w1 ⟨rfl, hb⟩
  have B1 := hide hb
  clear hb
  simp only []
  go_wp2_with fail
  refine (ER.out _).mono ?_
  rintro e w2 ⟨rfl, rfl⟩
  simp only []
  go_wp2_with fail
  go_ret
  exact ⟨rfl, B1.out⟩
set_option maxRecDepth 100000 in
theorem rd_4 (x y r : BitVec 64) (h : RF 4 ((x.setWidth 32).signExtend 64) ((y.setWidth 32).signExtend 64) r) : RD 4 true x y ((r.setWidth 32).signExtend 64) := by
  intro w
  replace h := hide h
  have EX := hide (sext32_c x)
  have EY := hide (sext32_c y)
  have ER := hide (sext32_c r)
  generalize (x.setWidth 32).signExtend 64 = xx at *
  generalize (y.setWidth 32).signExtend 64 = yy at *
  generalize (r.setWidth 32).signExtend 64 = rr at *
  go_enter Try.func13, Try.ntmps13
  go_wp2_with fail
  refine (EX.out _).mono ?_
  rintro e w1 ⟨rfl, rfl⟩
  simp only []
  go_wp2_with fail
  refine (EY.out _).mono ?_
  rintro e w1 ⟨rfl, rfl⟩
  simp only []
  go_wp2_with fail
  refine (h.out _).mono ?_
  rintro e w1 ⟨rfl, hb⟩
  have B1 := hide hb
  clear hb
  simp only []
  go_wp2_with fail
  refine (ER.out _).mono ?_
  rintro e w2 ⟨rfl, rfl⟩
  simp only []
  go_wp2_with fail
  go_ret
  exact ⟨rfl, B1.out⟩
set_option maxRecDepth 100000 in
theorem rd_6 (x y r : BitVec 64) (h : RF 6 ((x.setWidth 32).signExtend 64) ((y.setWidth 32).signExtend 64) r) : RD 6 true x y ((r.setWidth 32).signExtend 64) := by
  intro w
  replace h := hide h
  have EX := hide (sext32_c x)
  have EY := hide (sext32_c y)
  have ER := hide (sext32_c r)
  generalize (x.setWidth 32).signExtend 64 = xx at *
  generalize (y.setWidth 32).signExtend 64 = yy at *
  generalize (r.setWidth 32).signExtend 64 = rr at *
  go_enter Try.func13, Try.ntmps13
  go_wp2_with fail
  refine (EX.out _).mono ?_
  rintro e w1 ⟨rfl, rfl⟩
  simp only []
  go_wp2_with fail
  refine (EY.out _).mono ?_
  rintro e w1 ⟨rfl, rfl⟩
  simp only []
  go_wp2_with fail
  refine (h.out _).mono ?_
  rintro e w1 ⟨rfl, hb⟩
  have B1 := hide hb
  clear hb
  simp only []
  go_wp2_with fail
  refine (ER.out _).mono ?_
  rintro e w2 ⟨rfl, rfl⟩
  simp only []
  go_wp2_with fail
  go_ret
  exact ⟨rfl, B1.out⟩
set_option maxRecDepth 100000 in
theorem rd_5 (x y r : BitVec 64) (h : RF 5 ((x.setWidth 32).setWidth 64) ((y.setWidth 32).setWidth 64) r) : RD 5 true x y ((r.setWidth 32).signExtend 64) := by
  intro w
  replace h := hide h
  have EX := hide (zext32_c x)
  have EY := hide (zext32_c y)
  have ER := hide (sext32_c r)
  generalize (x.setWidth 32).setWidth 64 = xx at *
  generalize (y.setWidth 32).setWidth 64 = yy at *
  generalize (r.setWidth 32).signExtend 64 = rr at *
  go_enter Try.func13, Try.ntmps13
  go_wp2_with fail
  refine (EX.out _).mono ?_
  rintro e w1 ⟨rfl, rfl⟩
  simp only []
  go_wp2_with fail
  refine (EY.out _).mono ?_
  rintro e w1 ⟨rfl, rfl⟩
  simp only []
  go_wp2_with fail
  refine (h.out _).mono ?_
  rintro e w1 ⟨rfl, hb⟩
  have B1 := hide hb
  clear hb
  simp only []
  go_wp2_with fail
  refine (ER.out _).mono ?_
  rintro e w2 ⟨rfl, rfl⟩
  simp only []
  go_wp2_with fail
  go_ret
  exact ⟨rfl, B1.out⟩
set_option maxRecDepth 100000 in
theorem rd_7 (x y r : BitVec 64) (h : RF 7 ((x.setWidth 32).setWidth 64) ((y.setWidth 32).setWidth 64) r) : RD 7 true x y ((r.setWidth 32).signExtend 64) := by
  intro w
  replace h := hide h
  have EX := hide (zext32_c x)
  have EY := hide (zext32_c y)
  have ER := hide (sext32_c r)
  generalize (x.setWidth 32).setWidth 64 = xx at *
  generalize (y.setWidth 32).setWidth 64 = yy at *
  generalize (r.setWidth 32).signExtend 64 = rr at *
  go_enter Try.func13, Try.ntmps13
  go_wp2_with fail
  refine (EX.out _).mono ?_
  rintro e w1 ⟨rfl, rfl⟩
  simp only []
  go_wp2_with fail
  refine (EY.out _).mono ?_
  rintro e w1 ⟨rfl, rfl⟩
  simp only []
  go_wp2_with fail
  refine (h.out _).mono ?_
  rintro e w1 ⟨rfl, hb⟩
  have B1 := hide hb
  clear hb
  simp only []
  go_wp2_with fail
  refine (ER.out _).mono ?_
  rintro e w2 ⟨rfl, rfl⟩
  simp only []
  go_wp2_with fail
  go_ret
  exact ⟨rfl, B1.out⟩
set_option maxRecDepth 100000 in
theorem rd_other (f : Int) (x y : BitVec 64) (h0 : f ≠ 0) (h4 : f ≠ 4) (h6 : f ≠ 6) (h5 : f ≠ 5) (h7 : f ≠ 7) : RD f true x y 0#64 := by
  intro w
  go_enter Try.func13, Try.ntmps13
  go_wp2
  go_ret
  exact ⟨rfl, Below.refl _ _⟩
theorem quo_both (f : Int) (x y : BitVec 64) (h4 : 4 ≤ f) (h7 : f ≤ 7) : ∃ r, Q f x y r ∧ RF f x y r := by
  by_cases h : y = 0#64
  · subst h
    obtain rfl | rfl | rfl | rfl : f = 4 ∨ f = 5 ∨ f = 6 ∨ f = 7 := by omega
    · exact ⟨_, quo_4z x, rf_4z x⟩
    · exact ⟨_, quo_5z x, rf_5z x⟩
    · exact ⟨_, quo_6z x, rf_6z x⟩
    · exact ⟨_, quo_7z x, rf_7z x⟩
  · obtain rfl | rfl | rfl | rfl : f = 4 ∨ f = 5 ∨ f = 6 ∨ f = 7 := by omega
    · exact ⟨_, quo_4 x y h, rf_4 x y h⟩
    · exact ⟨_, quo_5 x y h, rf_5 x y h⟩
    · exact ⟨_, quo_6 x y h, rf_6 x y h⟩
    · exact ⟨_, quo_7 x y h, rf_7 x y h⟩
theorem low_mul (x y : BitVec 32) : (x.signExtend 64 * y.signExtend 64).setWidth 32 = x * y := by
  rw [BitVec.setWidth_mul _ _ (by omega), low_sext, low_sext]
theorem both_mul (f : Int) (word : Bool) (x y : BitVec 64) : ∃ r, R f word x y r ∧ RD f word x y r := by
  cases word
  · by_cases h4 : 4 ≤ f ∧ f ≤ 7
    · obtain ⟨r, h1, h2⟩ := quo_both f x y h4.1 h4.2
      exact ⟨r, r_q (by omega) (by omega) (by omega) (by omega) h1, rd_full _ _ _ _ h2⟩
    · by_cases h0 : f = 0
      · subst h0; exact ⟨_, r_0 x y, rd_full _ _ _ _ (rf_0 x y)⟩
      by_cases h1 : f = 1
      · subst h1; exact ⟨_, r_1 x y, rd_full _ _ _ _ (rf_1 x y)⟩
      by_cases h2 : f = 2
      · subst h2; exact ⟨_, r_2 x y, rd_full _ _ _ _ (rf_2 x y)⟩
      by_cases h3 : f = 3
      · subst h3; exact ⟨_, result_long _ _ _ _ (long_3 x y), rd_full _ _ _ _ (rf_3 x y)⟩
      exact ⟨_, r_q h0 h1 h2 h3 (quo_other f x y (by omega)), rd_full _ _ _ _ (rf_other f x y h0 h1 h2 h3 (by omega) (by omega) (by omega) (by omega))⟩
  · by_cases h0 : f = 0
    · subst h0
      have h := rd_0 x y _ (rf_0 _ _)
      rw [low_mul] at h
      exact ⟨_, result_short _ _ _ _ (short_0 _ _), h⟩
    by_cases h4 : f = 4
    · subst h4; obtain ⟨r, h1, h2⟩ := quo_both 4 _ _ (by omega) (by omega); exact ⟨_, result_short _ _ _ _ (short_4 _ _ r h1), rd_4 x y r h2⟩
    by_cases h6 : f = 6
    · subst h6; obtain ⟨r, h1, h2⟩ := quo_both 6 _ _ (by omega) (by omega); exact ⟨_, result_short _ _ _ _ (short_6 _ _ r h1), rd_6 x y r h2⟩
    by_cases h5 : f = 5
    · subst h5; obtain ⟨r, h1, h2⟩ := quo_both 5 _ _ (by omega) (by omega); exact ⟨_, result_short _ _ _ _ (short_5 _ _ r h1), rd_5 x y r h2⟩
    by_cases h7 : f = 7
    · subst h7; obtain ⟨r, h1, h2⟩ := quo_both 7 _ _ (by omega) (by omega); exact ⟨_, result_short _ _ _ _ (short_7 _ _ r h1), rd_7 x y r h2⟩
    exact ⟨_, result_short _ _ _ _ (short_other f _ _ h0 h4 h5 h6 h7), rd_other f x y h0 h4 h6 h5 h7⟩
set_option maxRecDepth 100000 in
theorem results_core (f : Int) (word : Bool) (x y r : BitVec 64) (h1 : R f word x y r) (h2 : RD f word x y r) (W : World) :
    Calls Try.prog 3 #[.int .i64 f, .bool word, .int .u64 x.toNat, .int .u64 y.toNat] W fun e W' => e = .returned (.bool true) ∧ Below W.heap.size W W' := by
  replace h1 := hide h1
  replace h2 := hide h2
  go_enter Try.func3, Try.ntmps3
  go_wp2_with fail
  refine (awake_c _).mono ?_
  rintro e w1 ⟨rfl, hb⟩
  have B1 := hide hb
  clear hb
  simp only []
  go_wp2_with fail
  refine (h1.out _).mono ?_
  rintro e w2 ⟨rfl, rfl⟩
  simp only []
  go_wp2_with fail
  refine (h2.out _).mono ?_
  rintro e w3 ⟨rfl, hb⟩
  have B3 := hide (B1.out.trans (hb.mono B1.out.size))
  clear hb
  simp only []
  go_wp2_with fail
  go_ret
  exact ⟨rfl, B3.out⟩
theorem results_w (W : World) (f : Int) (_ : (Lit.int .i64 f).wf = true) (word : Bool) (x : Int) (hx : (Lit.int .u64 x).wf = true) (y : Int) (hy : (Lit.int .u64 y).wf = true) :
    Calls Try.prog 3 #[.int .i64 f, .bool word, .int .u64 x, .int .u64 y] W fun e W' => e = .returned (.bool true) ∧ Below W.heap.size W W' := by
  obtain ⟨x, rfl⟩ := of_u64 hx
  obtain ⟨y, rfl⟩ := of_u64 hy
  obtain ⟨r, h1, h2⟩ := both_mul f word x y
  exact results_core f word x y r h1 h2 W
end Go.Proofs.Ytngegkonijljnaa


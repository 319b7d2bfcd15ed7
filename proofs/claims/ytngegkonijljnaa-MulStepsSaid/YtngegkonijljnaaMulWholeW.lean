/- MulWhole: the walk. -/
import Derived.Test.YtngegkonijljnaaMulL
namespace Go.Proofs.Ytngegkonijljnaa
open Go.RowKit
set_option linter.unusedVariables false
set_option linter.unusedSimpArgs false
set_option maxHeartbeats 1600000
theorem r_5 {x y : BitVec 64} (h : y ≠ 0#64) : R 5 false x y (x / y) := r_q (by decide) (by decide) (by decide) (by decide) (quo_5 x y h)
theorem r_7 {x y : BitVec 64} (h : y ≠ 0#64) : R 7 false x y (x % y) := r_q (by decide) (by decide) (by decide) (by decide) (quo_7 x y h)
theorem r_4 {x y : BitVec 64} (h : y ≠ 0#64) : R 4 false x y (sdv x y) := r_q (by decide) (by decide) (by decide) (by decide) (quo_4 x y h)
theorem r_6 {x y : BitVec 64} (h : y ≠ 0#64) : R 6 false x y (srm x y) := r_q (by decide) (by decide) (by decide) (by decide) (quo_6 x y h)
set_option maxRecDepth 100000 in
theorem whole_zero (x : BitVec 64) (W : World) : Calls Try.prog 4 #[.int .u64 x.toNat, .int .u64 0] W fun e W' => e = .returned (.bool true) ∧ Below W.heap.size W W' := by
  have h7 := hide (r_q (by decide) (by decide) (by decide) (by decide) (quo_7z x))
  have h6 := hide (r_q (by decide) (by decide) (by decide) (by decide) (quo_6z x))
  have q : ∀ n : Int, (n == n) = true := fun n => by simp
  have z : ((0#64).toNat : Int) = 0 := rfl
  go_enter Try.func4, Try.ntmps4
  go_wp2_with fail
  refine (awake_c _).mono ?_
  rintro e w' ⟨rfl, hb⟩
  have B1 := hide hb
  clear hb
  simp only []
  go_wp2_with fail
  refine (awake_c _).mono ?_
  rintro e w' ⟨rfl, hb⟩
  have B2 := hide (B1.out.trans (hb.mono B1.out.size))
  clear hb
  simp only []
  go_wp2_with fail
  refine (h7.out _).mono ?_
  rintro e w' ⟨rfl, rfl⟩
  simp only []
  go_wp2_with fail
  refine (h6.out _).mono ?_
  rintro e w' ⟨rfl, rfl⟩
  simp only []
  go_wp2_with fail
  go_ret
  exact ⟨rfl, B2.out⟩
set_option maxRecDepth 100000 in
theorem whole_core (x y q r s t m1 m2 : BitVec 64) (X Y T : Int) (hy : ((y.toNat : Int) == 0) = false) (h5 : R 5 false x y q) (h7 : R 7 false x y r) (h4 : R 4 false x y s) (h6 : R 6 false x y t)
    (e1 : IntKind.u64.wrap ((q.toNat : Int) * y.toNat) = m1.toNat) (e2 : IntKind.u64.wrap ((m1.toNat : Int) + r.toNat) = x.toNat) (er : decide (y.toNat ≤ r.toNat) = false)
    (e3 : IntKind.u64.wrap ((s.toNat : Int) * y.toNat) = m2.toNat) (e4 : IntKind.u64.wrap ((m2.toNat : Int) + t.toNat) = x.toNat)
    (eX : IntKind.i64.wrap (x.toNat : Int) = X) (eY : IntKind.i64.wrap (y.toNat : Int) = Y) (eT : IntKind.i64.wrap (t.toNat : Int) = T)
    (b1 b2 b3 b4 b5 b6 b7 b8 b9 b10 b11 : Bool) (d1 : (T == 0) = b1) (d2 : decide (T < 0) = b2) (d3 : decide (X < 0) = b3) (d4 : decide (Y < 0) = b4) (d5 : decide (Y < T) = b5) (d6 : decide (0 < T) = b6) (d7 : decide (0 < Y) = b7) (d8 : decide (T < Y) = b8)
    (nT nY : Int) (eN : wrap64 (-T) = nT) (eM : wrap64 (-Y) = nY) (d9 : decide (nT < Y) = b9) (d10 : (Y == -9223372036854775808) = b10) (d11 : decide (T < nY) = b11)
    (ok : b1 = true ∨ b1 = false ∧ (b2 = true ∧ b3 = true ∧ b4 = true ∧ b5 = true ∨ b2 = false ∧ b3 = false ∧ b6 = true ∧ b7 = true ∧ b8 = true ∨ b2 = true ∧ b3 = true ∧ b4 = false ∧ b6 = false ∧ b7 = true ∧ b9 = true
      ∨ b2 = false ∧ b3 = false ∧ b6 = true ∧ b7 = false ∧ b4 = true ∧ (b10 = true ∨ b10 = false ∧ b11 = true))) (W : World) :
    Calls Try.prog 4 #[.int .u64 x.toNat, .int .u64 y.toNat] W fun e W' => e = .returned (.bool true) ∧ Below W.heap.size W W' := by
  replace h5 := hide h5
  replace h7 := hide h7
  replace h4 := hide h4
  replace h6 := hide h6
  have q' : ∀ n : Int, (n == n) = true := fun n => by simp
  rcases ok with rfl | ok
  · have hT : T = 0 := by simpa using d1
    subst hT
    clear d1 d2 d3 d4 d5 d6 d7 d8 d9 d10 d11 eN eM
    go_enter Try.func4, Try.ntmps4
    go_wp2_with fail
    refine (awake_c _).mono ?_
    rintro e w' ⟨rfl, hb⟩
    have B1 := hide hb
    clear hb
    simp only []
    go_wp2_with fail
    refine (h5.out _).mono ?_
    rintro e w' ⟨rfl, rfl⟩
    simp only []
    go_wp2_with fail
    refine (h7.out _).mono ?_
    rintro e w' ⟨rfl, rfl⟩
    simp only []
    go_wp2_with fail
    refine (h4.out _).mono ?_
    rintro e w' ⟨rfl, rfl⟩
    simp only []
    go_wp2_with fail
    refine (h6.out _).mono ?_
    rintro e w' ⟨rfl, rfl⟩
    simp only []
    go_wp2_with fail
    go_ret
    exact ⟨rfl, B1.out⟩
  rcases ok with ⟨rfl, ⟨rfl, rfl, rfl, rfl⟩ | ⟨rfl, rfl, rfl, rfl, rfl⟩ | ⟨rfl, rfl, rfl, rfl, rfl, rfl⟩ | ⟨rfl, rfl, rfl, rfl, rfl, rfl | ⟨rfl, rfl⟩⟩⟩
  all_goals
    have hT : ¬ T = 0 := by simpa using d1
    have dT : (T != 0) = true := by simpa using d1
    go_enter Try.func4, Try.ntmps4
    go_wp2_with fail
    refine (awake_c _).mono ?_
    rintro e w' ⟨rfl, hb⟩
    have B1 := hide hb
    clear hb
    simp only []
    go_wp2_with fail
    refine (h5.out _).mono ?_
    rintro e w' ⟨rfl, rfl⟩
    simp only []
    go_wp2_with fail
    refine (h7.out _).mono ?_
    rintro e w' ⟨rfl, rfl⟩
    simp only []
    go_wp2_with fail
    refine (h4.out _).mono ?_
    rintro e w' ⟨rfl, rfl⟩
    simp only []
    go_wp2_with fail
    refine (h6.out _).mono ?_
    rintro e w' ⟨rfl, rfl⟩
    simp only []
    go_wp2_with fail
    go_ret
    exact ⟨rfl, B1.out⟩
theorem whole_w (W : World) (x : Int) (hx : (Lit.int .u64 x).wf = true) (y : Int) (hy : (Lit.int .u64 y).wf = true) :
    Calls Try.prog 4 #[.int .u64 x, .int .u64 y] W fun e W' => e = .returned (.bool true) ∧ Below W.heap.size W W' := by
  obtain ⟨x, rfl⟩ := of_u64 hx
  obtain ⟨y, rfl⟩ := of_u64 hy
  by_cases h : y = 0#64
  · subst h; exact whole_zero x W
  have hn := toInt_ne y h
  have a1 := BitVec.toInt_lt (x := x)
  have a2 := BitVec.le_toInt x
  have a3 := BitVec.toInt_lt (x := y)
  have a4 := BitVec.le_toInt y
  have eT : IntKind.i64.wrap ((srm x y).toNat : Int) = x.toInt.tmod y.toInt := by rw [i64_toInt]; exact toInt_tmod x y
  have hr : ¬ y.toNat ≤ (x % y).toNat := by
    rw [BitVec.toNat_umod]
    have := Nat.mod_lt x.toNat (show 0 < y.toNat from Nat.pos_of_ne_zero (fun e => h (BitVec.eq_of_toNat_eq (by simpa using e))))
    omega
  have e2 := add64 (x / y * y) (x % y)
  rw [udiv_whole] at e2
  have e4 := add64 (sdv x y * y) (srm x y)
  rw [show sdv x y * y + srm x y = x from ofInt_whole x y] at e4
  refine whole_core x y (x / y) (x % y) (sdv x y) (srm x y) _ _ _ _ _ (beq_eq_false_iff_ne.2 (nat_ne y h)) (r_5 h) (r_7 h) (r_4 h) (r_6 h) (mul64 _ _) e2 (decide_eq_false hr) (mul64 _ _) e4 (i64_toInt x) (i64_toInt y) eT
    _ _ _ _ _ _ _ _ _ _ _ rfl rfl rfl rfl rfl rfl rfl rfl _ _ rfl rfl rfl rfl rfl ?_ W
  have hc := tmod_cases x.toInt y.toInt hn
  have hb : (x.toInt.tmod y.toInt).natAbs ≤ x.toInt.natAbs := by rw [Int.natAbs_tmod]; exact Nat.mod_le _ _
  generalize x.toInt.tmod y.toInt = T at *
  generalize x.toInt = X at *
  generalize y.toInt = Y at *
  clear e2 e4 eT hr h
  rcases hc with rfl | ⟨c1, c2, c3, c4⟩ | ⟨c1, c2, c3, c4⟩ | ⟨c1, c2, c3, c4⟩ | ⟨c1, c2, c3, c4⟩
  · left; rfl
  · right
    refine ⟨beq_eq_false_iff_ne.2 (by omega), .inl ⟨decide_eq_true c1, decide_eq_true c2, decide_eq_true c3, decide_eq_true c4⟩⟩
  · right
    refine ⟨beq_eq_false_iff_ne.2 (by omega), .inr (.inl ⟨decide_eq_false (by omega), decide_eq_false (by omega), decide_eq_true c1, decide_eq_true c3, decide_eq_true c4⟩)⟩
  · right
    refine ⟨beq_eq_false_iff_ne.2 (by omega), .inr (.inr (.inl ⟨decide_eq_true c1, decide_eq_true c2, decide_eq_false (by omega), decide_eq_false (by omega), decide_eq_true c3, decide_eq_true ?_⟩))⟩
    unfold wrap64; omega
  · right
    refine ⟨beq_eq_false_iff_ne.2 (by omega), .inr (.inr (.inr ⟨decide_eq_false (by omega), decide_eq_false (by omega), decide_eq_true c1, decide_eq_false (by omega), decide_eq_true c3, ?_⟩))⟩
    by_cases hm : Y = -9223372036854775808
    · left; rw [hm]; rfl
    · right
      refine ⟨beq_eq_false_iff_ne.2 hm, decide_eq_true ?_⟩
      unfold wrap64; omega
end Go.Proofs.Ytngegkonijljnaa


/- MulNil, MulSigns, MulWide, MulWhole, MulSmall: the walks. -/
import Derived.Test.YtngegkonijljnaaMulU
namespace Go.Proofs.Ytngegkonijljnaa
open Go.RowKit
set_option linter.unusedVariables false
set_option linter.unusedSimpArgs false
set_option maxHeartbeats 1600000
theorem mnil_w (W : World) (f : Int) (_ : (Lit.int .i64 f).wf = true) (x : Int) (_ : (Lit.int .u64 x).wf = true) (y : Int) (_ : (Lit.int .u64 y).wf = true) :
    Calls Try.prog 9 #[.int .i64 f, .int .u64 x, .int .u64 y] W fun e W' => e = .returned (.bool true) ∧ Below W.heap.size W W' := mnil_walk f x y W
theorem r_0 (x y : BitVec 64) : R 0 false x y (x * y) := result_long _ _ _ _ (long_0 x y)
theorem r_1 (x y : BitVec 64) : R 1 false x y (hs x y true true) := result_long _ _ _ _ (long_1 x y)
theorem r_2 (x y : BitVec 64) : R 2 false x y (hs x y true false) := result_long _ _ _ _ (long_2 x y)
theorem r_3 (x y : BitVec 64) : R 3 false x y (hi64 x y) := by
  have h := result_long _ _ _ _ (long_3 x y)
  unfold hs at h
  simp only [Bool.false_and, Bool.false_eq_true, if_false] at h
  rw [show ∀ z : BitVec 64, z - 0 = z from fun z => BitVec.sub_zero z, show ∀ z : BitVec 64, z - 0 = z from fun z => BitVec.sub_zero z] at h
  exact h
theorem r_q {f : Int} {x y r : BitVec 64} (h0 : f ≠ 0) (h1 : f ≠ 1) (h2 : f ≠ 2) (h3 : f ≠ 3) (h : Q f x y r) : R f false x y r := result_long _ _ _ _ (long_q f x y r h0 h1 h2 h3 h)
set_option maxRecDepth 100000 in
theorem signs_core (x y : BitVec 64) (W : World) : Calls Try.prog 6 #[.int .u64 x.toNat, .int .u64 y.toNat] W fun e W' => e = .returned (.bool true) ∧ Below W.heap.size W W' := by
  have R3 := hide (r_3 x y)
  have R2 := hide (r_2 x y)
  have R1 := hide (r_1 x y)
  unfold hs at R1 R2
  have hi := i64_toInt x
  have hj := i64_toInt y
  generalize hi64 x y = h at *
  have s1 := sub64 h y
  have s2 := sub64 h x
  have s3 := sub64 (h - y) x
  have mx := BitVec.msb_eq_toInt (x := x)
  have my := BitVec.msb_eq_toInt (x := y)
  by_cases cx : x.toInt < 0 <;> by_cases cy : y.toInt < 0
  all_goals
    first
    | rw [decide_eq_true cx] at mx
    | rw [decide_eq_false cx] at mx
    first
    | rw [decide_eq_true cy] at my
    | rw [decide_eq_false cy] at my
    rw [mx, my] at R1
    rw [mx] at R2
    simp only [Bool.and_true, Bool.and_false, Bool.true_and, Bool.false_and, if_true, if_false, reduceIte, Bool.false_eq_true] at R1 R2
    rw [show ∀ z : BitVec 64, z - 0 = z from fun z => BitVec.sub_zero z] at R2
    try rw [show ∀ z : BitVec 64, z - 0 = z from fun z => BitVec.sub_zero z] at R2
    try rw [show ∀ z : BitVec 64, z - 0 = z from fun z => BitVec.sub_zero z] at R1
    try rw [show ∀ z : BitVec 64, z - 0 = z from fun z => BitVec.sub_zero z] at R1
    first
    | have dx : decide (x.toInt < 0) = true := decide_eq_true cx
    | have dx : decide (x.toInt < 0) = false := decide_eq_false cx
    first
    | have dy : decide (y.toInt < 0) = true := decide_eq_true cy
    | have dy : decide (y.toInt < 0) = false := decide_eq_false cy
    clear mx my
    (try generalize h - y - x = r3 at *)
    (try generalize h - y = r1 at *)
    (try generalize h - x = r2 at *)
    have q : ∀ n : Int, (n == n) = true := fun n => by simp
    go_enter Try.func6, Try.ntmps6
    go_wp2_with fail
    refine (R3.out _).mono ?_
    rintro e w' ⟨rfl, rfl⟩
    simp only []
    go_wp2_with fail
    refine (awake_c _).mono ?_
    rintro e w' ⟨rfl, hb⟩
    have B1 := hide hb
    clear hb
    simp only []
    go_wp2_with fail
    refine (R2.out _).mono ?_
    rintro e w' ⟨rfl, rfl⟩
    simp only []
    go_wp2_with fail
    refine (R1.out _).mono ?_
    rintro e w' ⟨rfl, rfl⟩
    simp only []
    go_wp2_with fail
    go_ret
    exact ⟨rfl, B1.out⟩
theorem signs_w (W : World) (x : Int) (hx : (Lit.int .u64 x).wf = true) (y : Int) (hy : (Lit.int .u64 y).wf = true) :
    Calls Try.prog 6 #[.int .u64 x, .int .u64 y] W fun e W' => e = .returned (.bool true) ∧ Below W.heap.size W W' := by
  obtain ⟨x, rfl⟩ := of_u64 hx
  obtain ⟨y, rfl⟩ := of_u64 hy
  exact signs_core x y W
set_option maxRecDepth 100000 in
/-- s < b: the sum went round. -/
theorem wide_round (lo hi lc hc s a b c : BitVec 64) (h1 : R 0 false a b lo) (h2 : R 3 false a b hi) (h3 : R 0 false a c lc) (h4 : R 3 false a c hc) (h5 : R 0 false b a lo) (h6 : R 3 false b a hi)
    (es : IntKind.u64.wrap ((b.toNat : Int) + c.toNat) = s.toNat) (hs : s.toNat < b.toNat) (W : World) :
    Calls Try.prog 5 #[.int .u64 a.toNat, .int .u64 b.toNat, .int .u64 c.toNat] W fun e W' => e = .returned (.bool true) ∧ Below W.heap.size W W' := by
  replace h1 := hide h1
  replace h2 := hide h2
  replace h3 := hide h3
  replace h4 := hide h4
  replace h5 := hide h5
  replace h6 := hide h6
  have ds : decide (s.toNat < b.toNat) = true := decide_eq_true hs
  clear hs
  go_enter Try.func5, Try.ntmps5
  go_wp2_with fail
  refine (h1.out _).mono ?_
  rintro e w' ⟨rfl, rfl⟩
  simp only []
  go_wp2_with fail
  refine (h2.out _).mono ?_
  rintro e w' ⟨rfl, rfl⟩
  simp only []
  go_wp2_with fail
  refine (h3.out _).mono ?_
  rintro e w' ⟨rfl, rfl⟩
  simp only []
  go_wp2_with fail
  refine (h4.out _).mono ?_
  rintro e w' ⟨rfl, rfl⟩
  simp only []
  go_wp2_with fail
  refine (awake_c _).mono ?_
  rintro e w' ⟨rfl, hb⟩
  have B1 := hide hb
  clear hb
  simp only []
  go_wp2_with fail
  refine (h5.out _).mono ?_
  rintro e w' ⟨rfl, rfl⟩
  simp only []
  go_wp2_with fail
  refine (h6.out _).mono ?_
  rintro e w' ⟨rfl, rfl⟩
  simp only []
  go_wp2_with fail
  refine (awake_c _).mono ?_
  rintro e w' ⟨rfl, hb⟩
  have B2 := hide (B1.out.trans (hb.mono B1.out.size))
  clear hb
  simp only []
  go_wp2_with fail
  refine (h5.out _).mono ?_
  rintro e w' ⟨rfl, rfl⟩
  simp only []
  go_wp2_with fail
  refine (h6.out _).mono ?_
  rintro e w' ⟨rfl, rfl⟩
  simp only []
  go_wp2_with fail
  go_ret
  exact ⟨rfl, B2.out⟩
set_option maxRecDepth 100000 in
theorem wide_flat (lo hi lc hc s a b c l h t t2 cy : BitVec 64) (h1 : R 0 false a b lo) (h2 : R 3 false a b hi) (h3 : R 0 false a c lc) (h4 : R 3 false a c hc) (h5 : R 0 false b a lo) (h6 : R 3 false b a hi) (h7 : R 0 false a s l) (h8 : R 3 false a s h)
    (es : IntKind.u64.wrap ((b.toNat : Int) + c.toNat) = s.toNat) (hs : ¬ s.toNat < b.toNat) (el : IntKind.u64.wrap ((lo.toNat : Int) + lc.toNat) = l.toNat) (et : IntKind.u64.wrap ((hi.toNat : Int) + hc.toNat) = t.toNat)
    (bc : Bool) (hbc : decide (l.toNat < lo.toNat) = bc) (e0 : bc = false → t = h) (e1 : bc = true → IntKind.u64.wrap ((t.toNat : Int) + 1) = h.toNat) (W : World) :
    Calls Try.prog 5 #[.int .u64 a.toNat, .int .u64 b.toNat, .int .u64 c.toNat] W fun e W' => e = .returned (.bool true) ∧ Below W.heap.size W W' := by
  replace h1 := hide h1
  replace h2 := hide h2
  replace h3 := hide h3
  replace h4 := hide h4
  replace h5 := hide h5
  replace h6 := hide h6
  replace h7 := hide h7
  replace h8 := hide h8
  have ds : decide (s.toNat < b.toNat) = false := decide_eq_false hs
  have q : ∀ n : Int, (n == n) = true := fun n => by simp
  have z : IntKind.u64.wrap ((t.toNat : Int) + 0) = t.toNat := by rw [Int.add_zero]; exact u64_small _ t.isLt
  clear hs
  cases bc
  · obtain rfl := e0 rfl
    clear e0 e1
    go_enter Try.func5, Try.ntmps5
    go_wp2_with fail
    refine (h1.out _).mono ?_
    rintro e w' ⟨rfl, rfl⟩
    simp only []
    go_wp2_with fail
    refine (h2.out _).mono ?_
    rintro e w' ⟨rfl, rfl⟩
    simp only []
    go_wp2_with fail
    refine (h3.out _).mono ?_
    rintro e w' ⟨rfl, rfl⟩
    simp only []
    go_wp2_with fail
    refine (h4.out _).mono ?_
    rintro e w' ⟨rfl, rfl⟩
    simp only []
    go_wp2_with fail
    refine (awake_c _).mono ?_
    rintro e w' ⟨rfl, hb⟩
    have B1 := hide hb
    clear hb
    simp only []
    go_wp2_with fail
    refine (h5.out _).mono ?_
    rintro e w' ⟨rfl, rfl⟩
    simp only []
    go_wp2_with fail
    refine (h6.out _).mono ?_
    rintro e w' ⟨rfl, rfl⟩
    simp only []
    go_wp2_with fail
    refine (h7.out _).mono ?_
    rintro e w' ⟨rfl, rfl⟩
    simp only []
    go_wp2_with fail
    refine (h8.out _).mono ?_
    rintro e w' ⟨rfl, rfl⟩
    simp only []
    go_wp2_with fail
    go_ret
    exact ⟨rfl, B1.out⟩
  · replace e1 := e1 rfl
    clear e0 z
    go_enter Try.func5, Try.ntmps5
    go_wp2_with fail
    refine (h1.out _).mono ?_
    rintro e w' ⟨rfl, rfl⟩
    simp only []
    go_wp2_with fail
    refine (h2.out _).mono ?_
    rintro e w' ⟨rfl, rfl⟩
    simp only []
    go_wp2_with fail
    refine (h3.out _).mono ?_
    rintro e w' ⟨rfl, rfl⟩
    simp only []
    go_wp2_with fail
    refine (h4.out _).mono ?_
    rintro e w' ⟨rfl, rfl⟩
    simp only []
    go_wp2_with fail
    refine (awake_c _).mono ?_
    rintro e w' ⟨rfl, hb⟩
    have B1 := hide hb
    clear hb
    simp only []
    go_wp2_with fail
    refine (h5.out _).mono ?_
    rintro e w' ⟨rfl, rfl⟩
    simp only []
    go_wp2_with fail
    refine (h6.out _).mono ?_
    rintro e w' ⟨rfl, rfl⟩
    simp only []
    go_wp2_with fail
    refine (h7.out _).mono ?_
    rintro e w' ⟨rfl, rfl⟩
    simp only []
    go_wp2_with fail
    refine (h8.out _).mono ?_
    rintro e w' ⟨rfl, rfl⟩
    simp only []
    go_wp2_with fail
    go_ret
    exact ⟨rfl, B1.out⟩
theorem wide_w (W : World) (a : Int) (ha : (Lit.int .u64 a).wf = true) (b : Int) (hb : (Lit.int .u64 b).wf = true) (c : Int) (hc : (Lit.int .u64 c).wf = true) :
    Calls Try.prog 5 #[.int .u64 a, .int .u64 b, .int .u64 c] W fun e W' => e = .returned (.bool true) ∧ Below W.heap.size W W' := by
  obtain ⟨a, rfl⟩ := of_u64 ha
  obtain ⟨b, rfl⟩ := of_u64 hb
  obtain ⟨c, rfl⟩ := of_u64 hc
  have k0 := r_0 b a
  have k3 := r_3 b a
  rw [BitVec.mul_comm] at k0
  rw [hi64_comm] at k3
  by_cases h : (b + c).toNat < b.toNat
  · exact wide_round _ _ _ _ (b + c) a b c (r_0 a b) (r_3 a b) (r_0 a c) (r_3 a c) k0 k3 (add64 b c) h W
  · obtain ⟨e1, e2⟩ := wide_sum a b c (by omega)
    have k7 := r_0 a (b + c)
    rw [e1] at k7
    refine wide_flat _ _ _ _ (b + c) a b c (a * b + a * c) (hi64 a (b + c)) (hi64 a b + hi64 a c) 0 0 (r_0 a b) (r_3 a b) (r_0 a c) (r_3 a c) k0 k3 k7 (r_3 a (b + c)) (add64 b c) h (add64 _ _) (add64 _ _) _ rfl ?_ ?_ W
    · intro hd
      rw [e2, if_neg (of_decide_eq_false hd), BitVec.add_zero]
    · intro hd
      rw [e2, if_pos (of_decide_eq_true hd)]
      exact add64 _ 1#64
end Go.Proofs.Ytngegkonijljnaa


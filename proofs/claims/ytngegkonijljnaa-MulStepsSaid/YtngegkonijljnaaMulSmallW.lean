/- MulSmall: the walk. -/
import Derived.Test.YtngegkonijljnaaMulWholeW
import Derived.Deep.DeepMust
import Derived.Deep.RegionWith
namespace Go.Proofs.Ytngegkonijljnaa
open Go.RowKit
set_option linter.unusedVariables false
set_option linter.unusedSimpArgs false
set_option maxHeartbeats 1600000
set_option maxRecDepth 100000 in
theorem small_core (a b m c d : Int) (x y p p2 q r qu ru : BitVec 64) (hb : ¬ b = 0) (hd : ¬ d = 0) (wa : wrap64 a = a) (wb : wrap64 b = b) (ex : IntKind.u64.wrap a = x.toNat) (ey : IntKind.u64.wrap b = y.toNat)
    (h0 : R 0 false x y p) (h0w : R 0 true x y p2) (h4 : R 4 false x y q) (h6 : R 6 false x y r) (h5w : R 5 true x y qu) (h7w : R 7 true x y ru)
    (ep : IntKind.u64.wrap (wrap64 (a * b)) = p.toNat) (em : wrap32 (a * b) = m) (wm : wrap64 m = m) (ep2 : IntKind.u64.wrap m = p2.toNat)
    (eq : IntKind.u64.wrap (wrap64 (a.tdiv b)) = q.toNat) (er : IntKind.u64.wrap (a.tmod b) = r.toNat)
    (eu : IntKind.u64.wrap (IntKind.i64.wrap (IntKind.i32.wrap (IntKind.u32.wrap (c.tdiv d)))) = qu.toNat) (ev : IntKind.u64.wrap (IntKind.i64.wrap (IntKind.i32.wrap (c.tmod d))) = ru.toNat)
    (ec : IntKind.u32.wrap a = c) (ed : IntKind.u32.wrap b = d)
    (W : World) : Calls Try.prog 7 #[.int .i32 a, .int .i32 b] W fun e W' => e = .returned (.bool true) ∧ Below W.heap.size W W' := by
  replace h0 := hide h0
  replace h0w := hide h0w
  replace h4 := hide h4
  replace h6 := hide h6
  replace h5w := hide h5w
  replace h7w := hide h7w
  have hb2 : (b == 0) = false := beq_eq_false_iff_ne.2 hb
  have q' : ∀ n : Int, (n == n) = true := fun n => by simp
  go_enter Try.func7, Try.ntmps7
  go_wp2_with fail
  refine (awake_c _).mono ?_
  rintro e w' ⟨rfl, hb⟩
  have B1 := hide hb
  clear hb
  simp only []
  go_wp2_with fail
  refine (h0.out _).mono ?_
  rintro e w' ⟨rfl, rfl⟩
  simp only []
  go_wp2_with fail
  refine (h0w.out _).mono ?_
  rintro e w' ⟨rfl, rfl⟩
  simp only []
  go_wp2_with fail
  go_quiet ((first
    | (go_at_call_of 12 (Value.int IntKind.i64 4); go_must (exact Calls.quiet_of_same (h4.out _)))
    | (go_at_call_of 12 (Value.int IntKind.i64 6); go_must (exact Calls.quiet_of_same (h6.out _)))))
  have B2 := hide (below_drewN B1.out nq)
  generalize World.drewN _ nq = w2 at *
  clear B1
  go_wp2_with fail
  go_quiet ((first
    | (go_at_call_of 12 (Value.int IntKind.i64 5); go_must (exact Calls.quiet_of_same (h5w.out _)))
    | (go_at_call_of 12 (Value.int IntKind.i64 7); go_must (exact Calls.quiet_of_same (h7w.out _)))))
  have B3 := hide (below_drewN B2.out nq)
  generalize World.drewN _ nq = w3 at *
  go_wp2_with fail
  go_ret
  exact ⟨rfl, B3.out⟩
set_option maxRecDepth 100000 in
theorem small_zero (a m : Int) (x p p2 : BitVec 64) (wa : wrap64 a = a) (ex : IntKind.u64.wrap a = x.toNat)
    (h0 : R 0 false x 0#64 p) (h0w : R 0 true x 0#64 p2) (h4 : R 4 true x 0#64 (-1#64)) (h6 : R 6 true x 0#64 x) (ep : p = 0#64) (ep2 : p2 = 0#64)
    (W : World) : Calls Try.prog 7 #[.int .i32 a, .int .i32 0] W fun e W' => e = .returned (.bool true) ∧ Below W.heap.size W W' := by
  subst ep ep2
  replace h0 := hide h0
  replace h0w := hide h0w
  replace h4 := hide h4
  replace h6 := hide h6
  have z : ((0#64).toNat : Int) = 0 := rfl
  have z1 : ((-1#64).toNat : Int) = 18446744073709551615 := by decide
  have z2 : IntKind.u64.wrap 0 = 0 := rfl
  have z3 : wrap64 (a * 0) = 0 := by rw [Int.mul_zero]; unfold wrap64; omega
  have z4 : wrap32 (a * 0) = 0 := by rw [Int.mul_zero]; unfold wrap32; omega
  have z5 : wrap64 0 = 0 := by unfold wrap64; omega
  have q' : ∀ n : Int, (n == n) = true := fun n => by simp
  go_enter Try.func7, Try.ntmps7
  go_wp2_with fail
  refine (awake_c _).mono ?_
  rintro e w' ⟨rfl, hb⟩
  have B1 := hide hb
  clear hb
  simp only []
  go_wp2_with fail
  refine (h0.out _).mono ?_
  rintro e w' ⟨rfl, rfl⟩
  simp only []
  go_wp2_with fail
  refine (h0w.out _).mono ?_
  rintro e w' ⟨rfl, rfl⟩
  simp only []
  go_wp2_with fail
  refine (h4.out _).mono ?_
  rintro e w' ⟨rfl, rfl⟩
  simp only []
  go_wp2_with fail
  refine (h6.out _).mono ?_
  rintro e w' ⟨rfl, rfl⟩
  simp only []
  go_wp2_with fail
  go_ret
  exact ⟨rfl, B1.out⟩
theorem of_i32 {n : Int} (h : (Lit.int .i32 n).wf = true) : ∃ x : BitVec 32, n = x.toInt := by
  simp [Lit.wf] at h
  have h1 : IntKind.i32.min = -2147483648 := by decide
  have h2 : IntKind.i32.max = 2147483647 := by decide
  refine ⟨BitVec.ofInt 32 n, ?_⟩
  rw [BitVec.toInt_ofInt, Int.bmod_eq_of_le] <;> omega
theorem low_sext (x : BitVec 32) : (x.signExtend 64).setWidth 32 = x := by
  apply BitVec.eq_of_getLsbD_eq
  intro i hi
  rw [BitVec.getLsbD_setWidth, BitVec.getLsbD_signExtend]
  have h1 : decide (i < 32) = true := decide_eq_true hi
  have h2 : decide (i < 64) = true := decide_eq_true (by omega)
  rw [h1, h2, if_pos hi]; rfl
theorem r_0w (x y : BitVec 32) : R 0 true (x.signExtend 64) (y.signExtend 64) ((x * y).signExtend 64) := by
  apply result_short
  rw [low_sext, low_sext]
  exact short_0 x y
theorem sext_small (x y : BitVec 32) (W : World) : Calls Try.prog 7 #[.int .i32 x.toInt, .int .i32 y.toInt] W fun e W' => e = .returned (.bool true) ∧ Below W.heap.size W W' := by
  have a1 := BitVec.toInt_lt (x := x)
  have a2 := BitVec.le_toInt x
  have a3 := BitVec.toInt_lt (x := y)
  have a4 := BitVec.le_toInt y
  have wx : wrap64 x.toInt = x.toInt := by unfold wrap64; omega
  have wy : wrap64 y.toInt = y.toInt := by unfold wrap64; omega
  by_cases h : y = 0#32
  · subst h
    have q4 : R 4 true (x.signExtend 64) 0#64 (-1#64) := by
      apply result_short
      have := short_4 ((x.signExtend 64).setWidth 32) 0#32 (-1#64) (by rw [show (0#32).signExtend 64 = 0#64 from by decide]; exact quo_4z _)
      rw [show ((-1#64).setWidth 32).signExtend 64 = -1#64 from by decide] at this
      exact this
    have q6 : R 6 true (x.signExtend 64) 0#64 (x.signExtend 64) := by
      apply result_short
      have := short_6 ((x.signExtend 64).setWidth 32) 0#32 _ (by rw [show (0#32).signExtend 64 = 0#64 from by decide]; exact quo_6z _)
      rw [low_sext, low_sext] at this
      rw [low_sext]
      exact this
    have p0 := r_0 (x.signExtend 64) 0#64
    have p1 := r_0w x 0#32
    rw [show (0#32).signExtend 64 = 0#64 from by decide] at p1
    exact small_zero x.toInt 0 _ _ _ wx (u64_sext x) p0 p1 q4 q6 (by simp) (by simp) W
  · have hn : y.toInt ≠ 0 := fun e => h (BitVec.eq_of_toInt_eq (by rw [e]; rfl))
    have hs : y.signExtend 64 ≠ 0#64 := fun e => h (by rw [← low_sext y, e]; rfl)
    have hd : ¬ ((y.toNat : Int) = 0) := fun e => h (BitVec.eq_of_toNat_eq (by simpa using e))
    have hz : y.setWidth 64 ≠ 0#64 := fun e => h (by
      have := congrArg BitVec.toNat e
      rw [BitVec.toNat_setWidth] at this
      apply BitVec.eq_of_toNat_eq
      have l := y.isLt
      simp at this ⊢
      omega)
    have u5 : R 5 true (x.signExtend 64) (y.signExtend 64) ((x / y).signExtend 64) := by
      apply result_short
      rw [low_sext, low_sext]
      have := short_5 x y _ (quo_5 (x.setWidth 64) (y.setWidth 64) hz)
      rw [show (x.setWidth 64 / y.setWidth 64).setWidth 32 = x / y from ?_] at this
      · exact this
      apply BitVec.eq_of_toNat_eq
      rw [BitVec.toNat_setWidth, BitVec.toNat_udiv, BitVec.toNat_udiv, BitVec.toNat_setWidth, BitVec.toNat_setWidth]
      have l := x.isLt
      have l2 := y.isLt
      have l3 : x.toNat / y.toNat ≤ x.toNat := Nat.div_le_self _ _
      rw [Nat.mod_eq_of_lt (show x.toNat < 2 ^ 64 by omega), Nat.mod_eq_of_lt (show y.toNat < 2 ^ 64 by omega)]
      generalize x.toNat / y.toNat = k at *
      omega
    have u7 : R 7 true (x.signExtend 64) (y.signExtend 64) ((x % y).signExtend 64) := by
      apply result_short
      rw [low_sext, low_sext]
      have := short_7 x y _ (quo_7 (x.setWidth 64) (y.setWidth 64) hz)
      rw [show (x.setWidth 64 % y.setWidth 64).setWidth 32 = x % y from ?_] at this
      · exact this
      apply BitVec.eq_of_toNat_eq
      rw [BitVec.toNat_setWidth, BitVec.toNat_umod, BitVec.toNat_umod, BitVec.toNat_setWidth, BitVec.toNat_setWidth]
      have l := x.isLt
      have l2 := y.isLt
      have l3 : x.toNat % y.toNat ≤ x.toNat := Nat.mod_le _ _
      rw [Nat.mod_eq_of_lt (show x.toNat < 2 ^ 64 by omega), Nat.mod_eq_of_lt (show y.toNat < 2 ^ 64 by omega)]
      omega
    have es : ∀ n : BitVec 32, IntKind.u64.wrap (IntKind.i64.wrap (IntKind.i32.wrap (n.toNat : Int))) = ((n.signExtend 64).toNat : Int) := fun n => by
      rw [i32_toInt, show IntKind.i64.wrap n.toInt = wrap64 n.toInt from by rw [IntKind.wrap_i64]; unfold wrap64; rfl]; exact sext_twice n
    have em : wrap32 (x.toInt * y.toInt) = (x * y).toInt := by
      rw [BitVec.toInt_mul]; unfold wrap32; rw [Int.bmod_def]; omega
    have wm : wrap64 (x * y).toInt = (x * y).toInt := by
      have b1 := BitVec.toInt_lt (x := x * y)
      have b2 := BitVec.le_toInt (x * y)
      unfold wrap64; omega
    have xe : BitVec.ofInt 64 x.toInt = x.signExtend 64 := rfl
    have ye : BitVec.ofInt 64 y.toInt = y.signExtend 64 := rfl
    have xt : (x.signExtend 64).toInt = x.toInt := (sext_toInt x).symm
    have yt : (y.signExtend 64).toInt = y.toInt := (sext_toInt y).symm
    refine small_core x.toInt y.toInt _ x.toNat y.toNat _ _ _ _ _ _ _ _ hn hd wx wy (u64_sext x) (u64_sext y) (r_0 _ _) (r_0w x y) (r_4 hs) (r_6 hs) u5 u7 ?_ em wm (u64_sext _) ?_ ?_ ?_ ?_ (u32_toInt x) (u32_toInt y) W
    · rw [u64_ofInt, BitVec.ofInt_mul, xe, ye]
    · rw [u64_ofInt]; unfold sdv; rw [xt, yt]
    · unfold srm; rw [xt, yt, IntKind.wrap_u64, BitVec.toNat_ofInt]; omega
    · rw [← Int.ofNat_tdiv, ← BitVec.toNat_udiv]
      rw [show IntKind.u32.wrap (((x / y).toNat : Nat) : Int) = ((x / y).toNat : Int) from by rw [IntKind.wrap_u32]; have := (x / y).isLt; omega]
      exact es _
    · rw [← Int.ofNat_tmod, ← BitVec.toNat_umod]
      exact es _
theorem small_w (W : World) (x : Int) (hx : (Lit.int .i32 x).wf = true) (y : Int) (hy : (Lit.int .i32 y).wf = true) :
    Calls Try.prog 7 #[.int .i32 x, .int .i32 y] W fun e W' => e = .returned (.bool true) ∧ Below W.heap.size W W' := by
  obtain ⟨x, rfl⟩ := of_i32 hx
  obtain ⟨y, rfl⟩ := of_i32 hy
  exact sext_small x y W
end Go.Proofs.Ytngegkonijljnaa


/- AluWords: the walk. -/
import Derived.Test.YtnncifcfgjphlaaAluB
namespace Go.Proofs.Ytnncifcfgjphlaa
open Go.RowKit
set_option linter.unusedVariables false
set_option maxHeartbeats 800000
/-- What a word operation makes: it rests on the low halves alone, and is a number of 32 bits with its sign. -/
theorem word_low (f : Int) (xs ys : BitVec 32) : ∃ r : BitVec 32, ∀ x y : BitVec 64, x.setWidth 32 = xs → y.setWidth 32 = ys → A f true x y (r.signExtend 64) := by
  by_cases h8 : f = 8
  · subst h8; exact ⟨_, fun x y h1 h2 => by have := aluw_8 x y; rw [h1, h2] at this; exact this⟩
  by_cases h0 : f = 0
  · subst h0; exact ⟨_, fun x y h1 h2 => by have := aluw_0 x y; rw [h1, h2] at this; exact this⟩
  by_cases h1 : f = 1
  · subst h1; exact ⟨_, fun x y h1 h2 => by have := aluw_1 x y; rw [h1, h2] at this; exact this⟩
  by_cases h5 : f = 5
  · subst h5; exact ⟨_, fun x y h1 h2 => by have := aluw_5 x y; rw [h1, h2] at this; exact this⟩
  by_cases h13 : f = 13
  · subst h13; exact ⟨_, fun x y h1 h2 => by have := aluw_13 x y; rw [h1, h2] at this; exact this⟩
  · exact ⟨0, fun x y _ _ => by have := aluw_other f x y h8 h0 h1 h5 h13; exact this⟩
theorem mix_low (a x : BitVec 64) : ((a &&& 0xffffffff#64) ||| (x <<< 32)).setWidth 32 = a.setWidth 32 := by
  apply BitVec.eq_of_toNat_eq
  rw [BitVec.toNat_setWidth, BitVec.toNat_setWidth, BitVec.toNat_or, BitVec.toNat_and, BitVec.toNat_shiftLeft]
  have h1 : a.toNat &&& (0xffffffff#64).toNat = a.toNat % 2 ^ 32 := Nat.and_two_pow_sub_one_eq_mod _ 32
  rw [h1, Nat.or_mod_two_pow, Nat.mod_mod]
  have h2 : x.toNat <<< 32 % 2 ^ 64 % 2 ^ 32 = 0 := by rw [Nat.shiftLeft_eq]; omega
  rw [h2, Nat.or_zero]
theorem low_sext (x : BitVec 32) : (x.signExtend 64).setWidth 32 = x := by
  ext i hi; simp [BitVec.getLsbD_signExtend, hi]; intro h; omega
theorem i64_sext (r : BitVec 32) : wrap64 r.toInt = (r.signExtend 64).toInt := by
  rw [← sext_toInt]
  have h1 := BitVec.le_toInt r
  have h2 := BitVec.toInt_lt (x := r)
  simp only [wrap64]; omega
theorem shl_by32 (x : BitVec 64) : IntKind.u64.wrap ((x.toNat : Int) * 4294967296) = ((x <<< 32).toNat : Int) := by
  have := shl64 x 32
  rwa [show (2 : Int) ^ 32 = 4294967296 from by decide] at this
set_option maxRecDepth 100000 in
theorem words_walk (f : Int) (a b x y : BitVec 64) (W : World) :
    Calls Try.prog 8 #[.int .i64 f, .int .u64 a.toNat, .int .u64 b.toNat, .int .u64 x.toNat, .int .u64 y.toNat] W fun e W' => e = .returned (.bool true) ∧ W' = W := by
  obtain ⟨r, hr⟩ := word_low f (a.setWidth 32) (b.setWidth 32)
  have hV := hr a b rfl rfl
  have hC := hr ((a &&& 0xffffffff#64) ||| (x <<< 32)) ((b &&& 0xffffffff#64) ||| (y <<< 32)) (mix_low _ _) (mix_low _ _)
  have e1 := and64 a 0xffffffff#64
  have e2 := shl_by32 x
  have e3 := or64 (a &&& 0xffffffff#64) (x <<< 32)
  have f1 := and64 b 0xffffffff#64
  have f2 := shl_by32 y
  have f3 := or64 (b &&& 0xffffffff#64) (y <<< 32)
  rw [show (((0xffffffff#64).toNat : Nat) : Int) = 4294967295 from rfl] at e1 f1
  have g1 := u32_low' (r.signExtend 64)
  rw [low_sext] at g1
  have g2 := i32_toInt r
  have g3 := i64_sext r
  have g4 := u64_toInt (r.signExtend 64)
  clear hr
  generalize a &&& 0xffffffff#64 = am at *
  generalize x <<< 32 = xm at *
  generalize am ||| xm = c at *
  generalize b &&& 0xffffffff#64 = bm at *
  generalize y <<< 32 = ym at *
  generalize bm ||| ym = d at *
  generalize r.signExtend 64 = rs at *
  replace hV := hide hV
  replace hC := hide hC
  go_enter Try.func8, Try.ntmps8
  go_wp2_with fail
  refine (hV.out _).mono ?_
  rintro e w' ⟨rfl, rfl⟩
  simp only []
  go_wp2_with fail
  refine (awake_c _).mono ?_
  rintro e w' ⟨rfl, rfl⟩
  simp only []
  go_wp2_with fail
  refine (hC.out _).mono ?_
  rintro e w' ⟨rfl, rfl⟩
  simp only []
  go_wp2_with fail
  go_ret
  exact ⟨rfl, rfl⟩
theorem words_w (W : World) (f : Int) (hf : (Lit.int .i64 f).wf = true) (a : Int) (ha : (Lit.int .u64 a).wf = true) (b : Int) (hb : (Lit.int .u64 b).wf = true) (x : Int) (hx : (Lit.int .u64 x).wf = true) (y : Int) (hy : (Lit.int .u64 y).wf = true) :
    Calls Try.prog 8 #[.int .i64 f, .int .u64 a, .int .u64 b, .int .u64 x, .int .u64 y] W fun e W' => e = .returned (.bool true) ∧ Below W.heap.size W W' := by
  obtain ⟨a, rfl⟩ := of_u64 ha
  obtain ⟨b, rfl⟩ := of_u64 hb
  obtain ⟨x, rfl⟩ := of_u64 hx
  obtain ⟨y, rfl⟩ := of_u64 hy
  exact (words_walk f a b x y W).mono fun _ _ h => below_same h
end Go.Proofs.Ytnncifcfgjphlaa

/- CONTRACTS OF THE DOCUMENT'S WORDS: bit, may, Field, Sext, Zext. -/
import Derived.Test.YtngegkonijljnaaMulA
import Derived.Deep.DeepCutAuto
import Derived.Deep.CutBlock
import Derived.Deep.LoopGhost
namespace Go.Proofs.Ytngegkonijljnaa
open Go.RowKit
set_option linter.unusedVariables false
set_option linter.unusedSimpArgs false
set_option maxHeartbeats 1600000
set_option maxRecDepth 100000 in
theorem bit_c (x : BitVec 64) (k : Nat) (hk : k < 64) (w : World) : Calls Try.prog 35 #[.int .u64 x.toNat, .int .i64 k] w fun e w' => e = .returned (.bool (x.getLsbD k)) ∧ w' = w := by
  have h1 := shr64 x k
  have h2 := and64 (x >>> k) 1
  rw [show (((1 : BitVec 64).toNat : Nat) : Int) = 1 from by decide] at h2
  have h3 : ((((x >>> k) &&& 1).toNat : Int) == 1) = x.getLsbD k := by
    have e : (((x >>> k) &&& 1).toNat) = x.toNat / 2 ^ k % 2 := by
      rw [BitVec.toNat_and, BitVec.toNat_ushiftRight, Nat.shiftRight_eq_div_pow]
      exact Nat.and_two_pow_sub_one_eq_mod _ 1
    rw [e, BitVec.getLsbD, Nat.testBit_eq_decide_div_mod_eq]
    by_cases h : x.toNat / 2 ^ k % 2 = 1
    · rw [h]; rfl
    · rw [decide_eq_false h]; exact beq_eq_false_iff_ne.2 (by omega)
  generalize x.getLsbD k = r at *
  generalize (x >>> k) &&& 1 = v at *
  generalize x >>> k = u at *
  go_enter Try.func35, Try.ntmps35
  go_wp2
  go_ret
  exact ⟨rfl, rfl⟩
set_option maxRecDepth 100000 in
theorem may_c (hi lo : Nat) (h : lo ≤ hi) (h2 : hi ≤ 63) (w : World) : Calls Try.prog 39 #[.int .i64 hi, .int .i64 lo] w fun e w' => e = .returned (.bool true) ∧ w' = w := by
  have h3 : decide ((hi : Int) ≤ 63) = true := decide_eq_true (by omega)
  go_enter Try.func39, Try.ntmps39
  go_wp2
  go_ret
  exact ⟨rfl, rfl⟩
theorem bit_nat (x : BitVec 64) (k : Nat) : (x.toNat / 2 ^ k) % 2 = if x.getLsbD k then 1 else 0 := by
  rw [BitVec.getLsbD, Nat.testBit_eq_decide_div_mod_eq]
  by_cases h : x.toNat / 2 ^ k % 2 = 1
  · rw [h]; rfl
  · rw [if_neg (by simpa using h)]; omega
theorem field_step (x : BitVec 64) (k j : Nat) : x.toNat / 2 ^ k % 2 ^ (j + 1) = 2 * (x.toNat / 2 ^ (k + 1) % 2 ^ j) + if x.getLsbD k then 1 else 0 := by
  have e : x.toNat / 2 ^ (k + 1) = x.toNat / 2 ^ k / 2 := by rw [Nat.div_div_eq_div_mul, Nat.pow_succ]
  rw [← bit_nat, e, Nat.pow_succ, Nat.mul_comm (2 ^ j) 2, Nat.mod_mul]
  exact Nat.add_comm ..
theorem small_pow (n : Nat) {j : Nat} (h : j ≤ 63) : n % 2 ^ j < 9223372036854775808 :=
  Nat.lt_of_lt_of_le (Nat.mod_lt _ (Nat.two_pow_pos j)) (Nat.pow_le_pow_right (by omega) h : 2 ^ j ≤ 2 ^ 63)
set_option maxRecDepth 100000 in
theorem field_c (x : BitVec 64) (hi lo : Nat) (h : lo ≤ hi) (h2 : hi ≤ 63) (w : World) : Calls Try.prog 34 #[.int .u64 x.toNat, .int .i64 hi, .int .i64 lo] w fun e w' => e = .returned (.int .u64 ((x.toNat / 2 ^ lo % 2 ^ (hi + 1 - lo) : Nat) : Int)) ∧ w' = w := by
  have M := hide (may_c hi lo h h2)
  have BC := hide (bit_c x)
  have ST := hide (field_step x)
  have SP := hide (@small_pow)
  have Z0 := hide (show ((x.toNat / 2 ^ (hi + 1 - 0) % 2 ^ 0 : Nat) : Int) = 0 from by rw [Nat.pow_zero, Nat.mod_one]; rfl)
  go_enter Try.func34, Try.ntmps34
  go_wp2_with fail
  go_loopg [7, 8] (hi + 1 - lo) (fun g vo vk wr => ∃ j : Nat, Hid (j + g = hi + 1 - lo) ∧ (∃ c : Int, vo = .int .u64 c ∧ Hid (c = ((x.toNat / 2 ^ (hi + 1 - j) % 2 ^ j : Nat) : Int))) ∧ (∃ kk : Int, vk = .int .i64 kk ∧ Hid (kk = (hi : Int) - j)) ∧ wr = w)
  case atStart => exact ⟨0, by unfold Hid; omega, ⟨0, rfl, Z0.out.symm⟩, ⟨hi, rfl, by unfold Hid; omega⟩, rfl⟩
  case round =>
    obtain ⟨j, hj, ⟨c, rfl, hc⟩, ⟨kk, rfl, hkk⟩, rfl⟩ := hrel
    go_wp2_with fail
    refine (M.out _).mono ?_
    rintro e w1 ⟨rfl, rfl⟩
    simp only []
    by_cases hl : (lo : Int) ≤ kk
    · have dl : decide ((lo : Int) ≤ kk) = true := decide_eq_true hl
      obtain ⟨k, hk⟩ : ∃ k : Nat, kk = k := ⟨kk.toNat, by omega⟩
      subst hk
      have hkj : hi + 1 - j = k + 1 := by have := hkk.out; omega
      have hkj2 : hi + 1 - (j + 1) = k := by have := hkk.out; omega
      have hk63 : k < 64 := by have := hkk.out; omega
      have hlk : lo ≤ k := by omega
      have hc2 := hc.out
      rw [hkj] at hc2
      obtain ⟨cn, hcn, hcl⟩ : ∃ cn : Nat, c = cn ∧ cn < 9223372036854775808 := ⟨_, hc2, SP.out _ (by have := hkk.out; omega)⟩
      have hcn2 : cn = x.toNat / 2 ^ (k + 1) % 2 ^ j := by omega
      have NX := hide (ST.out k j)
      rw [← hcn2] at NX
      subst hcn
      have w1 : IntKind.u64.wrap ((cn : Int) * 2) = (cn : Int) * 2 := by rw [IntKind.wrap_u64]; omega
      have w2 : IntKind.u64.wrap ((cn : Int) * 2 + 1) = (cn : Int) * 2 + 1 := by rw [IntKind.wrap_u64]; omega
      have w3 : wrap64 ((k : Int) - 1) = (k : Int) - 1 := by unfold wrap64; omega
      clear hc hc2 hcn2 hl hcl
      go_wp2_with fail
      refine (BC.out k hk63 _).mono ?_
      rintro e w4 ⟨rfl, rfl⟩
      simp only []
      cases hb : x.getLsbD k
      · rw [hb] at NX
        go_wp2
        go_roundg (hi + 1 - lo - (j + 1))
        case measure => have := hj.out; have := hkk.out; omega
        case rel => exact ⟨j + 1, by unfold Hid; have := hj.out; have := hkk.out; omega, ⟨_, rfl, by unfold Hid; rw [hkj2, NX.out]; simp; omega⟩, ⟨_, rfl, by unfold Hid; have := hkk.out; omega⟩, rfl⟩
      · rw [hb] at NX
        go_wp2
        go_roundg (hi + 1 - lo - (j + 1))
        case measure => have := hj.out; have := hkk.out; omega
        case rel => exact ⟨j + 1, by unfold Hid; have := hj.out; have := hkk.out; omega, ⟨_, rfl, by unfold Hid; rw [hkj2, NX.out]; simp; omega⟩, ⟨_, rfl, by unfold Hid; have := hkk.out; omega⟩, rfl⟩
    · have dl : decide ((lo : Int) ≤ kk) = false := decide_eq_false hl
      have hjn : j = hi + 1 - lo := by have := hj.out; have := hkk.out; omega
      have hlo : hi + 1 - j = lo := by omega
      have RES := hide (show c = ((x.toNat / 2 ^ lo % 2 ^ (hi + 1 - lo) : Nat) : Int) by have := hc.out; rw [hlo, hjn] at this; exact this)
      clear hc hl hjn hlo hj hkk
      go_wp2
      go_ret
      exact ⟨congrArg (fun n => Ending.returned (.int .u64 n)) RES.out, rfl⟩
theorem field_low (x : BitVec 64) : ((x.toNat / 2 ^ 0 % 2 ^ (31 + 1 - 0) : Nat) : Int) = (((x.setWidth 32).setWidth 64).toNat : Int) := by
  rw [BitVec.toNat_setWidth, BitVec.toNat_setWidth, Nat.pow_zero, Nat.div_one]
  omega
set_option maxRecDepth 100000 in
theorem sext64_c (x : BitVec 64) (w : World) : Calls Try.prog 24 #[.int .u64 x.toNat, .int .i64 64] w fun e w' => e = .returned (.int .u64 x.toNat) ∧ w' = w := by
  go_enter Try.func24, Try.ntmps24
  go_wp2
  go_ret
  exact ⟨rfl, rfl⟩
theorem pos_bits (x o : BitVec 64) (h31 : x.getLsbD 31 = false) (h : (o.toNat : Int) = (((x.setWidth 32).setWidth 64).toNat : Int)) : o = (x.setWidth 32).signExtend 64 := by
  have e : o = (x.setWidth 32).setWidth 64 := BitVec.eq_of_toNat_eq (by omega)
  rw [e]
  have m : (x.setWidth 32).msb = false := by rw [BitVec.msb_eq_getLsbD_last, BitVec.getLsbD_setWidth, h31]; rfl
  exact (BitVec.signExtend_eq_setWidth_of_msb_false m).symm
/-- The bits of a word below 0, the high ones laid up to n. -/
def Laid (x o : BitVec 64) (n : Nat) : Prop := ∀ i, i < 64 → o.getLsbD i = if i < 32 then x.getLsbD i else decide (i < n)
theorem laid_low (x : BitVec 64) : Laid x ((x.setWidth 32).setWidth 64) 32 := by
  intro i hi
  rw [BitVec.getLsbD_setWidth, BitVec.getLsbD_setWidth]
  by_cases h : i < 32
  · rw [if_pos h]; simp [h, hi]
  · rw [if_neg h]; simp [h]
theorem laid_step (x o : BitVec 64) (n : Nat) (h : Laid x o n) (hn : 32 ≤ n) (h64 : n < 64) : Laid x (o ||| 1#64 <<< n) (n + 1) := by
  intro i hi
  rw [BitVec.getLsbD_or, h i hi, show (1#64 <<< n) = BitVec.twoPow 64 n from by rw [BitVec.twoPow_eq], BitVec.getLsbD_twoPow]
  by_cases h1 : i < 32
  · rw [if_pos h1, if_pos h1]
    have : decide (n = i) = false := decide_eq_false (by omega)
    rw [this]; simp
  · rw [if_neg h1, if_neg h1]
    by_cases h2 : i < n
    · simp [h2, show i < n + 1 by omega]
    · by_cases h3 : n = i
      · subst h3; simp [h64]
      · have : ¬ i < n + 1 := by omega
        simp [h2, h3, this]
theorem laid_all (x o : BitVec 64) (h31 : x.getLsbD 31 = true) (h : Laid x o 64) : o = (x.setWidth 32).signExtend 64 := by
  apply BitVec.eq_of_getLsbD_eq
  intro i hi
  have m : (x.setWidth 32).msb = true := by rw [BitVec.msb_eq_getLsbD_last, BitVec.getLsbD_setWidth, h31]; rfl
  rw [h i hi, BitVec.getLsbD_signExtend, m]
  by_cases h1 : i < 32
  · rw [if_pos h1, if_pos h1, BitVec.getLsbD_setWidth]; simp [h1, hi]
  · rw [if_neg h1, if_neg h1]; simp [hi]
set_option maxRecDepth 100000 in
theorem sext32_c (x : BitVec 64) (w : World) : Calls Try.prog 24 #[.int .u64 x.toNat, .int .i64 32] w fun e w' => e = .returned (.int .u64 ((x.setWidth 32).signExtend 64).toNat) ∧ w' = w := by
  have FC := hide (field_c x 31 0 (by omega) (by omega))
  rw [field_low] at FC
  have PB := hide (pos_bits x)
  have LL := hide (laid_low x)
  have LA := hide (laid_all x)
  have LS := hide (laid_step x)
  generalize hlow : (x.setWidth 32).setWidth 64 = low at *
  generalize hres : (x.setWidth 32).signExtend 64 = res at *
  clear hlow hres
  have BC := hide (bit_c x 31 (by omega))
  cases h31 : x.getLsbD 31
  · rw [h31] at BC
    have ER := hide (PB.out low h31 rfl)
    clear PB LA LS LL h31
    go_enter Try.func24, Try.ntmps24
    go_wp2_with fail
    refine (FC.out _).mono ?_
    rintro e w1 ⟨rfl, rfl⟩
    simp only []
    go_wp2_with fail
    go_loopg [5, 6] 1 (fun g vo vk wr => vo = .int .u64 low.toNat ∧ vk = .int .i64 32 ∧ wr = w1)
    case atStart => exact ⟨rfl, rfl, rfl⟩
    case round =>
      obtain ⟨rfl, rfl, rfl⟩ := hrel
      go_wp2_with fail
      refine (BC.out _).mono ?_
      rintro e w2 ⟨rfl, rfl⟩
      simp only []
      go_wp2_with fail
      go_ret
      exact ⟨congrArg (fun n : BitVec 64 => Ending.returned (.int .u64 n.toNat)) ER.out, rfl⟩
  · rw [h31] at BC
    have LA2 := hide (fun o => LA.out o h31)
    clear PB LA h31
    have SH := hide (fun k : Nat => (by have := shl64 1#64 k; rwa [show ((1#64).toNat : Int) = 1 from rfl, Int.one_mul] at this : IntKind.u64.wrap ((2 : Int) ^ k) = ((1#64 <<< k).toNat : Int)))
    have OR := hide (fun (o : BitVec 64) (k : Nat) => or64 o (1#64 <<< k))
    go_enter Try.func24, Try.ntmps24
    go_wp2_with fail
    refine (FC.out _).mono ?_
    rintro e w1 ⟨rfl, rfl⟩
    simp only []
    go_wp2_with fail
    go_loopg [5, 6] 32 (fun g vo vk wr => ∃ (k : Nat) (o : BitVec 64), Hid (k + g = 64) ∧ 32 ≤ k ∧ k ≤ 64 ∧ vo = .int .u64 o.toNat ∧ vk = .int .i64 k ∧ wr = w1 ∧ Hid (Laid x o k))
    case atStart => exact ⟨32, low, rfl, by omega, by omega, rfl, rfl, rfl, LL⟩
    case round =>
      obtain ⟨k, o, hk, hk1, hk2, rfl, rfl, rfl, hL⟩ := hrel
      go_wp2_with fail
      refine (BC.out _).mono ?_
      rintro e w2 ⟨rfl, rfl⟩
      simp only []
      by_cases hk64 : k < 64
      · have dk : decide ((k : Int) < 64) = true := decide_eq_true (by omega)
        have sh := SH.out k
        have orr := OR.out o k
        have L2 := hide (LS.out o k hL.out hk1 hk64)
        have wk : IntKind.u64.wrap (k : Int) = k := by rw [IntKind.wrap_u64]; omega
        have wk2 : (k : Int) % 18446744073709551616 = k := by omega
        have wa : wrap64 ((k : Int) + 1) = ((k + 1 : Nat) : Int) := by unfold wrap64; omega
        generalize o ||| 1#64 <<< k = o2 at *
        generalize 1#64 <<< k = s at *
        go_wp2
        go_roundg (64 - (k + 1))
        case measure => have := hk.out; omega
        case rel => exact ⟨k + 1, o2, by unfold Hid; omega, by omega, by omega, by go_num, by go_num, rfl, L2⟩
      · have dk : decide ((k : Int) < 64) = false := decide_eq_false (by omega)
        obtain rfl : k = 64 := by omega
        have RES := hide (LA2.out o hL.out)
        go_wp2_with fail
        go_ret
        exact ⟨congrArg (fun n : BitVec 64 => Ending.returned (.int .u64 n.toNat)) RES.out, rfl⟩
set_option maxRecDepth 100000 in
theorem zext32_c (x : BitVec 64) (w : World) : Calls Try.prog 25 #[.int .u64 x.toNat, .int .i64 32] w fun e w' => e = .returned (.int .u64 ((x.setWidth 32).setWidth 64).toNat) ∧ w' = w := by
  have FC := hide (field_c x 31 0 (by omega) (by omega))
  rw [field_low] at FC
  generalize (x.setWidth 32).setWidth 64 = low at *
  go_enter Try.func25, Try.ntmps25
  go_wp2_with fail
  refine (FC.out _).mono ?_
  rintro e w1 ⟨rfl, rfl⟩
  simp only []
  go_wp2_with fail
  go_ret
  exact ⟨rfl, rfl⟩
end Go.Proofs.Ytngegkonijljnaa


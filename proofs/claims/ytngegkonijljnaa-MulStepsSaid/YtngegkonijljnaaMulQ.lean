/- CONTRACT OF THE DOCUMENT'S QUOTIENT. -/
import Derived.Test.YtngegkonijljnaaMulD
namespace Go.Proofs.Ytngegkonijljnaa
open Go.RowKit
set_option linter.unusedVariables false
set_option linter.unusedSimpArgs false
set_option maxHeartbeats 1600000
theorem and_one (s : BitVec 64) : s &&& 1#64 = BitVec.ofNat 64 (s.toNat % 2) := by
  apply BitVec.eq_of_toNat_eq
  have : s.toNat &&& (1#64).toNat = s.toNat % 2 := Nat.and_two_pow_sub_one_eq_mod _ 1
  rw [BitVec.toNat_and, this, BitVec.toNat_ofNat]; omega
theorem or_bit (r b : BitVec 64) (hb : b = 0#64 ∨ b = 1#64) : (r <<< 1 ||| b).toNat = (2 * r.toNat) % 18446744073709551616 + b.toNat := by
  have sl : (r <<< 1).toNat = (2 * r.toNat) % 18446744073709551616 := by
    rw [BitVec.toNat_shiftLeft, Nat.shiftLeft_eq]; omega
  have h : (r <<< 1) &&& b = 0#64 := by
    rcases hb with rfl | rfl
    · simp
    · rw [and_one, sl]
      have : 2 * r.toNat % 18446744073709551616 % 2 = 0 := by omega
      rw [this]
  rw [← BitVec.add_eq_or_of_and_eq_zero _ _ h, BitVec.toNat_add, sl]
  rcases hb with rfl | rfl
  · simp
  · rw [show (1#64).toNat = 1 from rfl]; omega
theorem bit_word (x : BitVec 64) (k : Nat) : (x >>> k &&& 1#64) = (if x.getLsbD k then 1#64 else 0#64) ∧ (x >>> k &&& 1#64).toNat = x.toNat / 2 ^ k % 2 := by
  have e : (x >>> k &&& 1#64).toNat = x.toNat / 2 ^ k % 2 := by
    rw [BitVec.toNat_and, BitVec.toNat_ushiftRight, Nat.shiftRight_eq_div_pow]
    exact Nat.and_two_pow_sub_one_eq_mod _ 1
  refine ⟨BitVec.eq_of_toNat_eq ?_, e⟩
  rw [e, bit_nat]
  cases x.getLsbD k <;> rfl
def Good (x y : BitVec 64) (k : Nat) (q r : BitVec 64) : Prop := x.toNat / 2 ^ k = q.toNat * y.toNat + r.toNat ∧ r.toNat < y.toNat
theorem q_step (x y q r : BitVec 64) (k : Nat) (h : Good x y (k + 1) q r) :
    (r.msb = true → Good x y k (q <<< 1 ||| 1#64) ((r <<< 1 ||| (x >>> k &&& 1#64)) - y)) ∧
    (r.msb = false → y.toNat ≤ (r <<< 1 ||| (x >>> k &&& 1#64)).toNat → Good x y k (q <<< 1 ||| 1#64) ((r <<< 1 ||| (x >>> k &&& 1#64)) - y)) ∧
    (r.msb = false → ¬ y.toNat ≤ (r <<< 1 ||| (x >>> k &&& 1#64)).toNat → Good x y k (q <<< 1) (r <<< 1 ||| (x >>> k &&& 1#64))) := by
  obtain ⟨h1, h2⟩ := h
  have yl := y.isLt
  have xl := x.isLt
  have D := digit_law x.toNat y.toNat k q.toNat r.toNat yl h1 h2
  obtain ⟨b1, b2⟩ := bit_word x k
  have bc : (x >>> k &&& 1#64) = 0#64 ∨ (x >>> k &&& 1#64) = 1#64 := by rw [b1]; cases x.getLsbD k <;> simp
  have s := or_bit r _ bc
  rw [b2] at s
  have bl : x.toNat / 2 ^ k % 2 < 2 := Nat.mod_lt _ (by omega)
  have ql : q.toNat < 9223372036854775808 := by
    have e : x.toNat / 2 ^ (k + 1) ≤ 9223372036854775807 := by
      rw [Nat.pow_succ, Nat.mul_comm, ← Nat.div_div_eq_div_mul]
      have : x.toNat / 2 / 2 ^ k ≤ x.toNat / 2 := Nat.div_le_self ..
      omega
    have : q.toNat * 1 ≤ q.toNat * y.toNat := Nat.mul_le_mul_left _ (by omega)
    omega
  have q2 : (q <<< 1).toNat = 2 * q.toNat := by rw [BitVec.toNat_shiftLeft, Nat.shiftLeft_eq]; omega
  have q3 : (q <<< 1 ||| 1#64).toNat = 2 * q.toNat + 1 := by
    rw [or_bit q 1#64 (.inr rfl), show (1#64).toNat = 1 from rfl]; omega
  have m := BitVec.msb_eq_decide r
  unfold Good
  rw [q2, q3, BitVec.toNat_sub, s]
  generalize x.toNat / 2 ^ k % 2 = b at *
  generalize x.toNat / 2 ^ k = X at *
  have rl := r.isLt
  refine ⟨fun hm => ?_, fun hm hc => ?_, fun hm hc => ?_⟩
  · rw [hm] at m
    have := of_decide_eq_true m.symm
    rw [if_pos (.inl (by omega))] at D
    obtain ⟨D1, D2⟩ := D
    have e : (2 ^ 64 - y.toNat + (2 * r.toNat % 18446744073709551616 + b)) % 2 ^ 64 = 2 * r.toNat + b - y.toNat := by omega
    rw [e]
    exact ⟨D1, D2⟩
  · rw [hm] at m
    have := of_decide_eq_false m.symm
    rw [if_pos (.inr (by omega))] at D
    obtain ⟨D1, D2⟩ := D
    have e : (2 ^ 64 - y.toNat + (2 * r.toNat % 18446744073709551616 + b)) % 2 ^ 64 = 2 * r.toNat + b - y.toNat := by omega
    rw [e]
    exact ⟨D1, D2⟩
  · rw [hm] at m
    have := of_decide_eq_false m.symm
    rw [if_neg (by omega)] at D
    obtain ⟨D1, D2⟩ := D
    have e : 2 * r.toNat % 18446744073709551616 + b = 2 * r.toNat + b := by omega
    rw [e]
    exact ⟨D1, D2⟩
theorem good_start (x y : BitVec 64) (h : y ≠ 0#64) : Good x y 64 0#64 0#64 := by
  have := x.isLt
  refine ⟨by rw [Nat.div_eq_of_lt this]; simp, ?_⟩
  exact Nat.pos_of_ne_zero (fun e => h (BitVec.eq_of_toNat_eq (by simpa using e)))
theorem good_end (x y q r : BitVec 64) (h : Good x y 0 q r) : q = x / y ∧ r = x % y := by
  obtain ⟨h1, h2⟩ := h
  rw [Nat.pow_zero, Nat.div_one] at h1
  refine ⟨BitVec.eq_of_toNat_eq ?_, BitVec.eq_of_toNat_eq ?_⟩
  · rw [BitVec.toNat_udiv, h1, Nat.mul_comm, Nat.mul_add_div (by omega), Nat.div_eq_of_lt h2, Nat.add_zero]
  · rw [BitVec.toNat_umod, h1, Nat.mul_comm, Nat.mul_add_mod, Nat.mod_eq_of_lt h2]
theorem shl_one (r : BitVec 64) : IntKind.u64.wrap ((r.toNat : Int) * 2) = ((r <<< 1).toNat : Int) := shl64 r 1
set_option maxRecDepth 100000 in
theorem rquo_c (x y : BitVec 64) (h : y ≠ 0#64) (w : World) : Calls Try.prog 32 #[.int .u64 x.toNat, .int .u64 y.toNat] w fun e w' => e = .returned (.tuple #[.int .u64 (x / y).toNat, .int .u64 (x % y).toNat]) ∧ w' = w := by
  have GS := hide (good_start x y h)
  have GE := hide (good_end x y)
  have QS := hide (q_step x y)
  have AD := hide (fun (v : BitVec 64) => and64 v 1#64)
  clear h
  generalize x / y = qq at *
  generalize x % y = rr at *
  go_enter Try.func32, Try.ntmps32
  go_wp2_with fail
  go_loopg [6, 7, 8, 9] 64 (fun g vq vr vk vt wr => ∃ (j : Nat) (q r : BitVec 64) (kk : Int), Hid (j + g = 64) ∧ vq = .int .u64 q.toNat ∧ vr = .int .u64 r.toNat ∧ vk = .int .i64 kk ∧ Hid (kk = 63 - (j : Int)) ∧ j ≤ 64 ∧ Hid (Good x y (64 - j) q r) ∧ wr = w)
  case atStart => exact ⟨0, 0#64, 0#64, 63, by unfold Hid; omega, rfl, rfl, rfl, by unfold Hid; omega, by omega, GS, rfl⟩
  case round =>
    obtain ⟨j, q, r, kk, hj, rfl, rfl, rfl, hkk, hj64, hG, rfl⟩ := hrel
    by_cases hk0 : 0 ≤ kk
    · obtain ⟨k, hk⟩ : ∃ k : Nat, kk = k := ⟨kk.toNat, by omega⟩
      subst hk
      have dk : decide (0 ≤ (k : Int)) = true := decide_eq_true hk0
      have jk : 64 - j = k + 1 := by have := hkk.out; omega
      have jk2 : 64 - (j + 1) = k := by have := hkk.out; omega
      have gg := hG.out
      rw [jk] at gg
      obtain ⟨S1, S2, S3⟩ := QS.out q r k gg
      replace S1 := hide S1
      replace S2 := hide S2
      replace S3 := hide S3
      clear gg hk0
      have sr := shl_one r
      have sq := shl_one q
      have sx := shr64 x k
      have ad := AD.out (x >>> k)
      rw [show ((1#64).toNat : Int) = 1 from rfl] at ad
      have orr := or64 (r <<< 1) (x >>> k &&& 1#64)
      have oq := or64 (q <<< 1) 1#64
      rw [show ((1#64).toNat : Int) = 1 from rfl] at oq
      have sb := sub64 (r <<< 1 ||| (x >>> k &&& 1#64)) y
      have tp := shr_top r
      have wk : IntKind.u64.wrap (k : Int) = k := by rw [IntKind.wrap_u64]; have := hkk.out; omega
      have wk1 : wrap64 ((k : Int) - 1) = (k : Int) - 1 := by unfold wrap64; have := hkk.out; omega
      generalize (r <<< 1 ||| (x >>> k &&& 1#64)) - y = t at *
      generalize r <<< 1 ||| (x >>> k &&& 1#64) = s at *
      generalize x >>> k &&& 1#64 = b at *
      generalize x >>> k = xs at *
      generalize q <<< 1 ||| 1#64 = q3 at *
      generalize q <<< 1 = q2 at *
      generalize r <<< 1 = r2 at *
      cases hm : r.msb
      · rw [hm] at tp
        simp only [Bool.false_eq_true, if_false] at tp
        by_cases hc : y.toNat ≤ s.toNat
        · have G2 := hide (S2.out hm hc)
          have dc : decide (y.toNat ≤ s.toNat) = true := decide_eq_true hc
          clear hc hm S1 S2 S3
          go_wp2
          go_roundg (64 - (j + 1))
          case measure => have := hj.out; have := hkk.out; omega
          case rel => exact ⟨j + 1, q3, t, (k : Int) - 1, by unfold Hid; have := hj.out; have := hkk.out; omega, by go_num, by go_num, by go_num, by unfold Hid; have := hkk.out; omega, by have := hkk.out; omega, by rw [jk2]; exact G2, rfl⟩
        · have G2 := hide (S3.out hm hc)
          have dc : decide (y.toNat ≤ s.toNat) = false := decide_eq_false hc
          clear hc hm S1 S2 S3
          go_wp2
          go_roundg (64 - (j + 1))
          case measure => have := hj.out; have := hkk.out; omega
          case rel => exact ⟨j + 1, q2, s, (k : Int) - 1, by unfold Hid; have := hj.out; have := hkk.out; omega, by go_num, by go_num, by go_num, by unfold Hid; have := hkk.out; omega, by have := hkk.out; omega, by rw [jk2]; exact G2, rfl⟩
      · rw [hm] at tp
        simp only [if_true] at tp
        have G2 := hide (S1.out hm)
        clear hm S1 S2 S3
        go_wp2
        go_roundg (64 - (j + 1))
        case measure => have := hj.out; have := hkk.out; omega
        case rel => exact ⟨j + 1, q3, t, (k : Int) - 1, by unfold Hid; have := hj.out; have := hkk.out; omega, by go_num, by go_num, by go_num, by unfold Hid; have := hkk.out; omega, by have := hkk.out; omega, by rw [jk2]; exact G2, rfl⟩
    · have dk : decide (0 ≤ kk) = false := decide_eq_false hk0
      have jz : 64 - j = 0 := by have := hkk.out; omega
      have gg := hG.out
      rw [jz] at gg
      obtain ⟨e1, e2⟩ := GE.out q r gg
      subst e1 e2
      clear gg hk0 jz
      go_wp2
      refine bodyPost_ret (v := .tuple #[.int .u64 q.toNat, .int .u64 r.toNat]) (by simp [results, Try.results32, go_sem]) rfl ?_
      exact ⟨rfl, rfl⟩
end Go.Proofs.Ytngegkonijljnaa


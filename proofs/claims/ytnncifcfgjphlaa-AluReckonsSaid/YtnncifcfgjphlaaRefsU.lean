/- CONTRACTS OF THE DOCUMENT'S up AND down (document's Alu). -/
import Derived.Test.YtnncifcfgjphlaaRefsL
namespace Go.Proofs.Ytnncifcfgjphlaa
open Go.RowKit
set_option linter.unusedVariables false
set_option linter.unusedSimpArgs false
set_option maxHeartbeats 1600000
theorem shl_twice (x : BitVec 64) (j : Nat) : x <<< j + x <<< j = x <<< (j + 1) := by
  apply BitVec.eq_of_toNat_eq
  rw [BitVec.toNat_add, BitVec.toNat_shiftLeft, BitVec.toNat_shiftLeft, Nat.shiftLeft_eq, Nat.shiftLeft_eq]
  have e : x.toNat * 2 ^ (j + 1) = x.toNat * 2 ^ j * 2 := by rw [Nat.pow_succ, Nat.mul_assoc]
  rw [e]
  generalize x.toNat * 2 ^ j = k
  omega
set_option maxRecDepth 100000 in
theorem up_c (x : BitVec 64) (n : Nat) (hn : n < 64) (w : World) : Calls Try.prog 21 #[.int .u64 x.toNat, .int .i64 n] w fun e w' => e = .returned (.int .u64 (x <<< n).toNat) ∧ w' = w := by
  have AD := hide (fun j : Nat => (by have := add64 (x <<< j) (x <<< j); rwa [show x <<< j + x <<< j = x <<< (j + 1) from shl_twice x j] at this : IntKind.u64.wrap (((x <<< j).toNat : Int) + (x <<< j).toNat) = ((x <<< (j + 1)).toNat : Int)))
  have Z := hide (show x = x <<< 0 from by simp)
  go_enter Try.func21, Try.ntmps21
  go_wp2_with fail
  go_loopg [0, 5] n (fun g va vi wr => ∃ (j : Nat) (v : BitVec 64), Hid (j + g = n) ∧ j ≤ n ∧ va = .int .u64 v.toNat ∧ Hid (v = x <<< j) ∧ vi = .int .i64 j ∧ wr = w)
  case atStart => exact ⟨0, x, by unfold Hid; omega, by omega, rfl, Z, rfl, rfl⟩
  case round =>
    obtain ⟨j, v, hj, hjn, rfl, hv, rfl, rfl⟩ := hrel
    by_cases h : j < n
    · have ad := AD.out j
      rw [← hv.out] at ad
      have d : decide ((j : Int) < n) = true := decide_eq_true (by omega)
      have wj : wrap64 ((j : Int) + 1) = ((j + 1 : Nat) : Int) := by unfold wrap64; omega
      generalize hv2 : x <<< (j + 1) = v2 at *
      have hv3 := hide hv2.symm
      clear hv2
      go_wp2
      go_roundg (n - (j + 1))
      case measure => have := hj.out; omega
      case rel => exact ⟨j + 1, v2, by unfold Hid; omega, by omega, by go_num, hv3, by go_num, rfl⟩
    · obtain rfl : j = n := by omega
      have R := hide (congrArg (fun z : BitVec 64 => Ending.returned (.int .u64 z.toNat)) hv.out)
      have d : decide ((j : Int) < j) = false := decide_eq_false (by omega)
      go_wp2
      go_ret
      exact ⟨R.out, rfl⟩
theorem half64 (v : BitVec 64) : (v.toNat : Int) / (2 : Int) = ((v >>> 1).toNat : Int) := by
  rw [BitVec.toNat_ushiftRight, Nat.shiftRight_eq_div_pow]; omega
theorem half64w (v : BitVec 64) : IntKind.u64.wrap ((v.toNat : Int) / (2 : Int)) = ((v >>> 1).toNat : Int) := by
  have h := half64 v
  have := v.isLt
  rw [IntKind.wrap_u64]; omega
theorem top_bit (v : BitVec 64) (k : Nat) : ((v.toNat / 2 ^ k % 2 ^ (k + 1 - k) : Nat) : Int) = ((if v.getLsbD k then 1 else 0 : Nat) : Int) := by
  rw [show k + 1 - k = 1 from by omega, Nat.pow_one, bit_nat]
set_option maxRecDepth 100000 in
theorem down_64u (s : Nat → BitVec 64) (hs : ∀ j, s (j + 1) = s j >>> 1) (n : Nat) (hn : n < 64) (w : World) :
    Calls Try.prog 22 #[.int .u64 (s 0).toNat, .int .i64 n, .int .i64 64, .bool false] w fun e w' => e = .returned (.int .u64 (s n).toNat) ∧ w' = w := by
  have HS := hide hs
  clear hs
  have FC := hide (fun v w => field_c v 63 63 (by omega) (by omega) w)
  have FC2 : Hid (∀ (v : BitVec 64) (w : World), Calls Try.prog 20 #[.int .u64 v.toNat, .int .i64 63, .int .i64 63] w fun e w' => e = .returned (.int .u64 ((if v.getLsbD 63 then 1 else 0 : Nat) : Int)) ∧ w' = w) := hide fun v w => by
    have := FC.out v w
    rw [top_bit] at this
    exact this
  generalize hs0 : s 0 = s0
  have Z := hide hs0.symm
  clear hs0 FC
  go_enter Try.func22, Try.ntmps22
  go_wp2_with fail
  go_loopg [0, 9, 10] n (fun g va vi vt wr => ∃ (j : Nat) (v : BitVec 64), Hid (j + g = n) ∧ j ≤ n ∧ va = .int .u64 v.toNat ∧ Hid (v = s j) ∧ vi = .int .i64 j ∧ wr = w)
  case atStart => exact ⟨0, s0, by unfold Hid; omega, by omega, rfl, Z, rfl, rfl⟩
  case round =>
    obtain ⟨j, v, hj, hjn, rfl, hv, rfl, rfl⟩ := hrel
    by_cases h : j < n
    · have st := hide (HS.out j)
      rw [← hv.out] at st
      have d : decide ((j : Int) < n) = true := decide_eq_true (by omega)
      have wj : wrap64 ((j : Int) + 1) = ((j + 1 : Nat) : Int) := by unfold wrap64; omega
      have F := hide (FC2.out v)
      have hf : (v.toNat : Int) / (2 : Int) = ((v >>> 1).toNat : Int) := half64 v
      have hf2 : IntKind.u64.wrap ((v.toNat : Int) / (2 : Int)) = ((v >>> 1).toNat : Int) := half64w v
      have orr := or64 (v >>> 1) 9223372036854775808#64
      rw [show (((9223372036854775808#64).toNat : Nat) : Int) = 9223372036854775808 from by decide] at orr
      generalize hv2 : s (j + 1) = v2 at *
      have hv3 := hide hv2.symm
      clear hv2
      rw [← st.out] at hf hf2
      clear orr st
      cases hb : v.getLsbD 63
      all_goals
        rw [hb] at F
        clear hb
        go_wp2_with fail
        refine (F.out _).mono ?_
        rintro e w1 ⟨rfl, rfl⟩
        simp only []
        go_wp2
        go_roundg (n - (j + 1))
        case measure => have := hj.out; omega
        case rel => exact ⟨j + 1, v2, by unfold Hid; omega, by omega, by go_num, hv3, by go_num, rfl⟩
    · obtain rfl : j = n := by omega
      have R := hide (congrArg (fun z : BitVec 64 => Ending.returned (.int .u64 z.toNat)) hv.out)
      have d : decide ((j : Int) < j) = false := decide_eq_false (by omega)
      go_wp2
      go_ret
      exact ⟨R.out, rfl⟩
set_option maxRecDepth 100000 in
theorem down_64s (s : Nat → BitVec 64) (hs : ∀ j, s (j + 1) = s j >>> 1 ||| (if (s j).getLsbD 63 then 9223372036854775808#64 else 0#64)) (n : Nat) (hn : n < 64) (w : World) :
    Calls Try.prog 22 #[.int .u64 (s 0).toNat, .int .i64 n, .int .i64 64, .bool true] w fun e w' => e = .returned (.int .u64 (s n).toNat) ∧ w' = w := by
  have HS := hide hs
  clear hs
  have FC := hide (fun v w => field_c v 63 63 (by omega) (by omega) w)
  have FC2 : Hid (∀ (v : BitVec 64) (w : World), Calls Try.prog 20 #[.int .u64 v.toNat, .int .i64 63, .int .i64 63] w fun e w' => e = .returned (.int .u64 ((if v.getLsbD 63 then 1 else 0 : Nat) : Int)) ∧ w' = w) := hide fun v w => by
    have := FC.out v w
    rw [top_bit] at this
    exact this
  generalize hs0 : s 0 = s0
  have Z := hide hs0.symm
  clear hs0 FC
  go_enter Try.func22, Try.ntmps22
  go_wp2_with fail
  go_loopg [0, 9, 10] n (fun g va vi vt wr => ∃ (j : Nat) (v : BitVec 64), Hid (j + g = n) ∧ j ≤ n ∧ va = .int .u64 v.toNat ∧ Hid (v = s j) ∧ vi = .int .i64 j ∧ wr = w)
  case atStart => exact ⟨0, s0, by unfold Hid; omega, by omega, rfl, Z, rfl, rfl⟩
  case round =>
    obtain ⟨j, v, hj, hjn, rfl, hv, rfl, rfl⟩ := hrel
    by_cases h : j < n
    · have st := hide (HS.out j)
      rw [← hv.out] at st
      have d : decide ((j : Int) < n) = true := decide_eq_true (by omega)
      have wj : wrap64 ((j : Int) + 1) = ((j + 1 : Nat) : Int) := by unfold wrap64; omega
      have F := hide (FC2.out v)
      have hf : (v.toNat : Int) / (2 : Int) = ((v >>> 1).toNat : Int) := half64 v
      have hf2 : IntKind.u64.wrap ((v.toNat : Int) / (2 : Int)) = ((v >>> 1).toNat : Int) := half64w v
      have orr := or64 (v >>> 1) 9223372036854775808#64
      rw [show (((9223372036854775808#64).toNat : Nat) : Int) = 9223372036854775808 from by decide] at orr
      generalize hv2 : s (j + 1) = v2 at *
      have hv3 := hide hv2.symm
      clear hv2
      cases hb : v.getLsbD 63
      · rw [hb] at F st
        have E : v2 = v >>> 1 := st.out.trans (by simp)
        rw [← E] at hf hf2
        clear orr st hb E
        go_wp2_with fail
        refine (F.out _).mono ?_
        rintro e w1 ⟨rfl, rfl⟩
        simp only []
        go_wp2
        go_roundg (n - (j + 1))
        case measure => have := hj.out; omega
        case rel => exact ⟨j + 1, v2, by unfold Hid; omega, by omega, by go_num, hv3, by go_num, rfl⟩
      · rw [hb] at F st
        have E : v2 = v >>> 1 ||| 9223372036854775808#64 := st.out.trans (by simp)
        rw [← E] at orr
        clear st hb E
        generalize v >>> 1 = hf0 at *
        go_wp2_with fail
        refine (F.out _).mono ?_
        rintro e w1 ⟨rfl, rfl⟩
        simp only []
        go_wp2
        go_roundg (n - (j + 1))
        case measure => have := hj.out; omega
        case rel => exact ⟨j + 1, v2, by unfold Hid; omega, by omega, by go_num, hv3, by go_num, rfl⟩
    · obtain rfl : j = n := by omega
      have R := hide (congrArg (fun z : BitVec 64 => Ending.returned (.int .u64 z.toNat)) hv.out)
      have d : decide ((j : Int) < j) = false := decide_eq_false (by omega)
      go_wp2
      go_ret
      exact ⟨R.out, rfl⟩
set_option maxRecDepth 100000 in
theorem down_32u (s : Nat → BitVec 64) (hs : ∀ j, s (j + 1) = s j >>> 1) (n : Nat) (hn : n < 64) (w : World) :
    Calls Try.prog 22 #[.int .u64 (s 0).toNat, .int .i64 n, .int .i64 32, .bool false] w fun e w' => e = .returned (.int .u64 (s n).toNat) ∧ w' = w := by
  have HS := hide hs
  clear hs
  have FC := hide (fun v w => field_c v 31 31 (by omega) (by omega) w)
  have FC2 : Hid (∀ (v : BitVec 64) (w : World), Calls Try.prog 20 #[.int .u64 v.toNat, .int .i64 31, .int .i64 31] w fun e w' => e = .returned (.int .u64 ((if v.getLsbD 31 then 1 else 0 : Nat) : Int)) ∧ w' = w) := hide fun v w => by
    have := FC.out v w
    rw [top_bit] at this
    exact this
  generalize hs0 : s 0 = s0
  have Z := hide hs0.symm
  clear hs0 FC
  go_enter Try.func22, Try.ntmps22
  go_wp2_with fail
  go_loopg [0, 9, 10] n (fun g va vi vt wr => ∃ (j : Nat) (v : BitVec 64), Hid (j + g = n) ∧ j ≤ n ∧ va = .int .u64 v.toNat ∧ Hid (v = s j) ∧ vi = .int .i64 j ∧ wr = w)
  case atStart => exact ⟨0, s0, by unfold Hid; omega, by omega, rfl, Z, rfl, rfl⟩
  case round =>
    obtain ⟨j, v, hj, hjn, rfl, hv, rfl, rfl⟩ := hrel
    by_cases h : j < n
    · have st := hide (HS.out j)
      rw [← hv.out] at st
      have d : decide ((j : Int) < n) = true := decide_eq_true (by omega)
      have wj : wrap64 ((j : Int) + 1) = ((j + 1 : Nat) : Int) := by unfold wrap64; omega
      have F := hide (FC2.out v)
      have hf : (v.toNat : Int) / (2 : Int) = ((v >>> 1).toNat : Int) := half64 v
      have hf2 : IntKind.u64.wrap ((v.toNat : Int) / (2 : Int)) = ((v >>> 1).toNat : Int) := half64w v
      have orr := or64 (v >>> 1) 2147483648#64
      rw [show (((2147483648#64).toNat : Nat) : Int) = 2147483648 from by decide] at orr
      generalize hv2 : s (j + 1) = v2 at *
      have hv3 := hide hv2.symm
      clear hv2
      rw [← st.out] at hf hf2
      clear orr st
      cases hb : v.getLsbD 31
      all_goals
        rw [hb] at F
        clear hb
        go_wp2_with fail
        refine (F.out _).mono ?_
        rintro e w1 ⟨rfl, rfl⟩
        simp only []
        go_wp2
        go_roundg (n - (j + 1))
        case measure => have := hj.out; omega
        case rel => exact ⟨j + 1, v2, by unfold Hid; omega, by omega, by go_num, hv3, by go_num, rfl⟩
    · obtain rfl : j = n := by omega
      have R := hide (congrArg (fun z : BitVec 64 => Ending.returned (.int .u64 z.toNat)) hv.out)
      have d : decide ((j : Int) < j) = false := decide_eq_false (by omega)
      go_wp2
      go_ret
      exact ⟨R.out, rfl⟩
set_option maxRecDepth 100000 in
theorem down_32s (s : Nat → BitVec 64) (hs : ∀ j, s (j + 1) = s j >>> 1 ||| (if (s j).getLsbD 31 then 2147483648#64 else 0#64)) (n : Nat) (hn : n < 64) (w : World) :
    Calls Try.prog 22 #[.int .u64 (s 0).toNat, .int .i64 n, .int .i64 32, .bool true] w fun e w' => e = .returned (.int .u64 (s n).toNat) ∧ w' = w := by
  have HS := hide hs
  clear hs
  have FC := hide (fun v w => field_c v 31 31 (by omega) (by omega) w)
  have FC2 : Hid (∀ (v : BitVec 64) (w : World), Calls Try.prog 20 #[.int .u64 v.toNat, .int .i64 31, .int .i64 31] w fun e w' => e = .returned (.int .u64 ((if v.getLsbD 31 then 1 else 0 : Nat) : Int)) ∧ w' = w) := hide fun v w => by
    have := FC.out v w
    rw [top_bit] at this
    exact this
  generalize hs0 : s 0 = s0
  have Z := hide hs0.symm
  clear hs0 FC
  go_enter Try.func22, Try.ntmps22
  go_wp2_with fail
  go_loopg [0, 9, 10] n (fun g va vi vt wr => ∃ (j : Nat) (v : BitVec 64), Hid (j + g = n) ∧ j ≤ n ∧ va = .int .u64 v.toNat ∧ Hid (v = s j) ∧ vi = .int .i64 j ∧ wr = w)
  case atStart => exact ⟨0, s0, by unfold Hid; omega, by omega, rfl, Z, rfl, rfl⟩
  case round =>
    obtain ⟨j, v, hj, hjn, rfl, hv, rfl, rfl⟩ := hrel
    by_cases h : j < n
    · have st := hide (HS.out j)
      rw [← hv.out] at st
      have d : decide ((j : Int) < n) = true := decide_eq_true (by omega)
      have wj : wrap64 ((j : Int) + 1) = ((j + 1 : Nat) : Int) := by unfold wrap64; omega
      have F := hide (FC2.out v)
      have hf : (v.toNat : Int) / (2 : Int) = ((v >>> 1).toNat : Int) := half64 v
      have hf2 : IntKind.u64.wrap ((v.toNat : Int) / (2 : Int)) = ((v >>> 1).toNat : Int) := half64w v
      have orr := or64 (v >>> 1) 2147483648#64
      rw [show (((2147483648#64).toNat : Nat) : Int) = 2147483648 from by decide] at orr
      generalize hv2 : s (j + 1) = v2 at *
      have hv3 := hide hv2.symm
      clear hv2
      cases hb : v.getLsbD 31
      · rw [hb] at F st
        have E : v2 = v >>> 1 := st.out.trans (by simp)
        rw [← E] at hf hf2
        clear orr st hb E
        go_wp2_with fail
        refine (F.out _).mono ?_
        rintro e w1 ⟨rfl, rfl⟩
        simp only []
        go_wp2
        go_roundg (n - (j + 1))
        case measure => have := hj.out; omega
        case rel => exact ⟨j + 1, v2, by unfold Hid; omega, by omega, by go_num, hv3, by go_num, rfl⟩
      · rw [hb] at F st
        have E : v2 = v >>> 1 ||| 2147483648#64 := st.out.trans (by simp)
        rw [← E] at orr
        clear st hb E
        generalize v >>> 1 = hf0 at *
        go_wp2_with fail
        refine (F.out _).mono ?_
        rintro e w1 ⟨rfl, rfl⟩
        simp only []
        go_wp2
        go_roundg (n - (j + 1))
        case measure => have := hj.out; omega
        case rel => exact ⟨j + 1, v2, by unfold Hid; omega, by omega, by go_num, hv3, by go_num, rfl⟩
    · obtain rfl : j = n := by omega
      have R := hide (congrArg (fun z : BitVec 64 => Ending.returned (.int .u64 z.toNat)) hv.out)
      have d : decide ((j : Int) < j) = false := decide_eq_false (by omega)
      go_wp2
      go_ret
      exact ⟨R.out, rfl⟩
end Go.Proofs.Ytnncifcfgjphlaa


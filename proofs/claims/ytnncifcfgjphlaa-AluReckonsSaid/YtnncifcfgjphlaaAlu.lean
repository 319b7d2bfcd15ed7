/- CONTRACTS OF alu.Alu AND alu.short, each operation once. -/
import Derived.Test.YtnncifcfgjphlaaBits
import Derived.Test.YtnncifcfgjphlaaProg
import Derived.Handy
import Derived.WalkSpells
import Derived.BigRegion
import Derived.BigQuiet
import Derived.Deep.QuietTactic
import Derived.Outline
namespace Go.Proofs.Ytnncifcfgjphlaa
open Go.RowKit
set_option linter.unusedVariables false
set_option maxHeartbeats 1600000
def A (f : Int) (word : Bool) (x y r : BitVec 64) : Prop := ∀ w : World, Calls Try.prog 12 #[.int .i64 f, .bool word, .int .u64 x.toNat, .int .u64 y.toNat] w fun e w' => e = .returned (.int .u64 r.toNat) ∧ w' = w
def S (f : Int) (x y r : BitVec 32) (ok : Bool) : Prop := ∀ w : World, Calls Try.prog 18 #[.int .i64 f, .int .u32 x.toNat, .int .u32 y.toNat] w fun e w' => e = .returned (.tuple #[.int .u32 r.toNat, .bool ok]) ∧ w' = w

set_option maxRecDepth 100000 in
theorem alu_0 (x y : BitVec 64) : A 0 false x y (x + y) := by
  intro w
  have x0 := x.isLt
  have y0 := y.isLt
  have hb := and63 y
  have hs : y.toNat % 64 < 64 := Nat.mod_lt _ (by omega)
  have hi := i64_toInt x
  generalize hs0 : y.toNat % 64 = s at hb hs
  go_enter Try.func12, Try.ntmps12
  go_wp2
  go_ret
  exact ⟨congrArg (fun n => Ending.returned (.int .u64 n)) (add64 x y), rfl⟩

set_option maxRecDepth 100000 in
theorem alu_8 (x y : BitVec 64) : A 8 false x y (x + -y) := by
  intro w
  have x0 := x.isLt
  have y0 := y.isLt
  have hb := and63 y
  have hs : y.toNat % 64 < 64 := Nat.mod_lt _ (by omega)
  have hi := i64_toInt x
  generalize hs0 : y.toNat % 64 = s at hb hs
  go_enter Try.func12, Try.ntmps12
  go_wp2
  go_ret
  exact ⟨congrArg (fun n => Ending.returned (.int .u64 n)) (by rw [neg64, add64]), rfl⟩

set_option maxRecDepth 100000 in
theorem alu_1 (x y : BitVec 64) : A 1 false x y (x <<< (y.toNat % 64)) := by
  intro w
  have x0 := x.isLt
  have y0 := y.isLt
  have hb := and63 y
  have hs : y.toNat % 64 < 64 := Nat.mod_lt _ (by omega)
  have hi := i64_toInt x
  generalize hs0 : y.toNat % 64 = s at hb hs
  go_enter Try.func12, Try.ntmps12
  go_wp2
  go_ret
  exact ⟨congrArg (fun n => Ending.returned (.int .u64 n)) (shl64 x s), rfl⟩

set_option maxRecDepth 100000 in
theorem alu_5 (x y : BitVec 64) : A 5 false x y (x >>> (y.toNat % 64)) := by
  intro w
  have x0 := x.isLt
  have y0 := y.isLt
  have hb := and63 y
  have hs : y.toNat % 64 < 64 := Nat.mod_lt _ (by omega)
  have hi := i64_toInt x
  generalize hs0 : y.toNat % 64 = s at hb hs
  go_enter Try.func12, Try.ntmps12
  go_wp2
  go_ret
  exact ⟨congrArg (fun n => Ending.returned (.int .u64 n)) (shr64 x s), rfl⟩

set_option maxRecDepth 100000 in
theorem alu_13 (x y : BitVec 64) : A 13 false x y (x.sshiftRight (y.toNat % 64)) := by
  intro w
  have x0 := x.isLt
  have y0 := y.isLt
  have hb := and63 y
  have hs : y.toNat % 64 < 64 := Nat.mod_lt _ (by omega)
  have hi := i64_toInt x
  generalize hs0 : y.toNat % 64 = s at hb hs
  go_enter Try.func12, Try.ntmps12
  go_wp2
  go_ret
  exact ⟨congrArg (fun n => Ending.returned (.int .u64 n)) (by rw [sra64, u64_toInt]), rfl⟩

set_option maxRecDepth 100000 in
theorem alu_4 (x y : BitVec 64) : A 4 false x y (x ^^^ y) := by
  intro w
  have x0 := x.isLt
  have y0 := y.isLt
  have hb := and63 y
  have hs : y.toNat % 64 < 64 := Nat.mod_lt _ (by omega)
  have hi := i64_toInt x
  generalize hs0 : y.toNat % 64 = s at hb hs
  go_enter Try.func12, Try.ntmps12
  go_wp2
  go_ret
  exact ⟨congrArg (fun n => Ending.returned (.int .u64 n)) (xor64 x y), rfl⟩

set_option maxRecDepth 100000 in
theorem alu_6 (x y : BitVec 64) : A 6 false x y (x ||| y) := by
  intro w
  have x0 := x.isLt
  have y0 := y.isLt
  have hb := and63 y
  have hs : y.toNat % 64 < 64 := Nat.mod_lt _ (by omega)
  have hi := i64_toInt x
  generalize hs0 : y.toNat % 64 = s at hb hs
  go_enter Try.func12, Try.ntmps12
  go_wp2
  go_ret
  exact ⟨congrArg (fun n => Ending.returned (.int .u64 n)) (or64 x y), rfl⟩

set_option maxRecDepth 100000 in
theorem alu_7 (x y : BitVec 64) : A 7 false x y (x &&& y) := by
  intro w
  have x0 := x.isLt
  have y0 := y.isLt
  have hb := and63 y
  have hs : y.toNat % 64 < 64 := Nat.mod_lt _ (by omega)
  have hi := i64_toInt x
  generalize hs0 : y.toNat % 64 = s at hb hs
  go_enter Try.func12, Try.ntmps12
  go_wp2
  go_ret
  exact ⟨congrArg (fun n => Ending.returned (.int .u64 n)) (and64 x y), rfl⟩


set_option linter.unusedSimpArgs false
theorem wrap_twice (r : BitVec 32) : IntKind.u64.wrap (wrap64 r.toInt) = IntKind.u64.wrap r.toInt := by
  congr 1
  have h1 := BitVec.le_toInt r
  have h2 := BitVec.toInt_lt (x := r)
  simp only [wrap64]; omega
theorem add32m (x y : BitVec 32) : ((x.toNat : Int) + y.toNat) % 4294967296 = ((x + y).toNat : Int) := by rw [← add32, IntKind.wrap_u32]
theorem sub32m (x y : BitVec 32) : ((x.toNat : Int) + -y.toNat) % 4294967296 = ((x + -y).toNat : Int) := by rw [← add32, ← neg32, IntKind.wrap_u32, IntKind.wrap_u32]; omega
theorem shl32m (x : BitVec 32) (s : Nat) : ((x.toNat : Int) * 2 ^ s) % 4294967296 = ((x <<< s).toNat : Int) := by rw [← shl32, IntKind.wrap_u32]
theorem sra32m (x : BitVec 32) (s : Nat) : (x.toInt / 2 ^ s) % 4294967296 = ((x.sshiftRight s).toNat : Int) := by rw [sra32, ← u32_toInt, IntKind.wrap_u32]
theorem u32_low' (x : BitVec 64) : (x.toNat : Int) % 4294967296 = ((x.setWidth 32).toNat : Int) := by rw [← u32_low, IntKind.wrap_u32]
theorem less_c (b : Bool) (w : World) : Calls Try.prog 19 #[.bool b] w fun e w' => e = .returned (.int .u64 ((if b then 1#64 else 0#64).toNat : Int)) ∧ w' = w := by
  cases b
  all_goals
    go_enter Try.func19, Try.ntmps19
    go_wp2
    go_ret
    exact ⟨rfl, rfl⟩

set_option maxRecDepth 100000 in
theorem alu_2 (x y : BitVec 64) : A 2 false x y (if x.toInt < y.toInt then 1 else 0) := by
  intro w
  have x0 := x.isLt
  have y0 := y.isLt
  have hb := and63 y
  have hs : y.toNat % 64 < 64 := Nat.mod_lt _ (by omega)
  have hi := i64_toInt x
  have hj := i64_toInt y
  generalize hs0 : y.toNat % 64 = s at hb hs
  by_cases h : x.toInt < y.toInt
  · have hd : decide (x.toInt < y.toInt) = true := decide_eq_true (by omega)
    rw [if_pos h]
    go_enter Try.func12, Try.ntmps12
    go_wp2_with fail
    refine (less_c _ _).mono ?_
    rintro e w' ⟨rfl, rfl⟩
    simp only []
    go_wp2_with fail
    go_ret
    exact ⟨rfl, rfl⟩
  · have hd : decide (x.toInt < y.toInt) = false := decide_eq_false (by omega)
    rw [if_neg h]
    go_enter Try.func12, Try.ntmps12
    go_wp2_with fail
    refine (less_c _ _).mono ?_
    rintro e w' ⟨rfl, rfl⟩
    simp only []
    go_wp2_with fail
    go_ret
    exact ⟨rfl, rfl⟩

set_option maxRecDepth 100000 in
theorem alu_3 (x y : BitVec 64) : A 3 false x y (if x.toNat < y.toNat then 1 else 0) := by
  intro w
  have x0 := x.isLt
  have y0 := y.isLt
  have hb := and63 y
  have hs : y.toNat % 64 < 64 := Nat.mod_lt _ (by omega)
  have hi := i64_toInt x
  have hj := i64_toInt y
  generalize hs0 : y.toNat % 64 = s at hb hs
  by_cases h : x.toNat < y.toNat
  · have hd : decide (((x.toNat : Int) < (y.toNat : Int))) = true := decide_eq_true (by omega)
    rw [if_pos h]
    go_enter Try.func12, Try.ntmps12
    go_wp2_with fail
    refine (less_c _ _).mono ?_
    rintro e w' ⟨rfl, rfl⟩
    simp only []
    go_wp2_with fail
    go_ret
    exact ⟨rfl, rfl⟩
  · have hd : decide (((x.toNat : Int) < (y.toNat : Int))) = false := decide_eq_false (by omega)
    rw [if_neg h]
    go_enter Try.func12, Try.ntmps12
    go_wp2_with fail
    refine (less_c _ _).mono ?_
    rintro e w' ⟨rfl, rfl⟩
    simp only []
    go_wp2_with fail
    go_ret
    exact ⟨rfl, rfl⟩

set_option maxRecDepth 100000 in
theorem short_0 (x y : BitVec 32) : S 0 x y (x + y) true := by
  intro w
  have x0 := x.isLt
  have y0 := y.isLt
  have hb := and31 y
  have hs : y.toNat % 32 < 32 := Nat.mod_lt _ (by omega)
  have hi := i32_toInt x
  generalize hs0 : y.toNat % 32 = s at hb hs ⊢
  have hc := add32m x y
  generalize x + y = r at hc ⊢
  go_enter Try.func18, Try.ntmps18
  go_wp2
  refine bodyPost_ret (v := .tuple #[.int .u32 r.toNat, .bool true]) (by simp [results, Try.results18, go_sem, hc]) rfl ?_
  exact ⟨rfl, rfl⟩

set_option maxRecDepth 100000 in
theorem short_8 (x y : BitVec 32) : S 8 x y (x + -y) true := by
  intro w
  have x0 := x.isLt
  have y0 := y.isLt
  have hb := and31 y
  have hs : y.toNat % 32 < 32 := Nat.mod_lt _ (by omega)
  have hi := i32_toInt x
  generalize hs0 : y.toNat % 32 = s at hb hs ⊢
  have hc := sub32m x y
  generalize x + -y = r at hc ⊢
  go_enter Try.func18, Try.ntmps18
  go_wp2
  refine bodyPost_ret (v := .tuple #[.int .u32 r.toNat, .bool true]) (by simp [results, Try.results18, go_sem, hc]) rfl ?_
  exact ⟨rfl, rfl⟩

set_option maxRecDepth 100000 in
theorem short_1 (x y : BitVec 32) : S 1 x y (x <<< (y.toNat % 32)) true := by
  intro w
  have x0 := x.isLt
  have y0 := y.isLt
  have hb := and31 y
  have hs : y.toNat % 32 < 32 := Nat.mod_lt _ (by omega)
  have hi := i32_toInt x
  generalize hs0 : y.toNat % 32 = s at hb hs ⊢
  have hc := shl32m x s
  generalize x <<< s = r at hc ⊢
  go_enter Try.func18, Try.ntmps18
  go_wp2
  refine bodyPost_ret (v := .tuple #[.int .u32 r.toNat, .bool true]) (by simp [results, Try.results18, go_sem, hc]) rfl ?_
  exact ⟨rfl, rfl⟩

set_option maxRecDepth 100000 in
theorem short_5 (x y : BitVec 32) : S 5 x y (x >>> (y.toNat % 32)) true := by
  intro w
  have x0 := x.isLt
  have y0 := y.isLt
  have hb := and31 y
  have hs : y.toNat % 32 < 32 := Nat.mod_lt _ (by omega)
  have hi := i32_toInt x
  generalize hs0 : y.toNat % 32 = s at hb hs ⊢
  have hc := shr32 x s
  generalize x >>> s = r at hc ⊢
  go_enter Try.func18, Try.ntmps18
  go_wp2
  refine bodyPost_ret (v := .tuple #[.int .u32 r.toNat, .bool true]) (by simp [results, Try.results18, go_sem, hc]) rfl ?_
  exact ⟨rfl, rfl⟩

set_option maxRecDepth 100000 in
theorem short_13 (x y : BitVec 32) : S 13 x y (x.sshiftRight (y.toNat % 32)) true := by
  intro w
  have x0 := x.isLt
  have y0 := y.isLt
  have hb := and31 y
  have hs : y.toNat % 32 < 32 := Nat.mod_lt _ (by omega)
  have hi := i32_toInt x
  generalize hs0 : y.toNat % 32 = s at hb hs ⊢
  have hc := sra32m x s
  generalize x.sshiftRight s = r at hc ⊢
  go_enter Try.func18, Try.ntmps18
  go_wp2
  refine bodyPost_ret (v := .tuple #[.int .u32 r.toNat, .bool true]) (by simp [results, Try.results18, go_sem, hc]) rfl ?_
  exact ⟨rfl, rfl⟩

set_option maxRecDepth 100000 in
theorem alu_word (f : Int) (x y : BitVec 64) (r : BitVec 32) (h : S f (x.setWidth 32) (y.setWidth 32) r true) : A f true x y (r.signExtend 64) := by
  intro w
  have x0 := x.isLt
  have y0 := y.isLt
  have hx := u32_low' x
  have hy := u32_low' y
  generalize x.setWidth 32 = xs at hx h
  generalize y.setWidth 32 = ys at hy h
  have hr := i32_toInt r
  have hr2 := hide (u64_sext r)
  have hw := hide (wrap_twice r)
  generalize r.signExtend 64 = rs at hr2 ⊢
  have h' := hide h
  clear h
  have hx' := hide hx
  have hy' := hide hy
  clear hx hy
  go_enter Try.func12, Try.ntmps12
  go_wp2_with fail
  rw [hx'.out, hy'.out]
  refine (h'.out _).mono ?_
  rintro e w' ⟨rfl, rfl⟩
  simp only []
  go_wp2_with fail
  go_ret
  exact ⟨congrArg (fun n => Ending.returned (.int .u64 n)) (hw.out.trans hr2.out), rfl⟩
set_option maxRecDepth 100000 in
theorem alu_wordless (f : Int) (x y : BitVec 64) (r : BitVec 32) (h : S f (x.setWidth 32) (y.setWidth 32) r false) : A f true x y 0 := by
  intro w
  have x0 := x.isLt
  have y0 := y.isLt
  have hx := u32_low' x
  have hy := u32_low' y
  generalize x.setWidth 32 = xs at hx h
  generalize y.setWidth 32 = ys at hy h
  have h' := hide h
  clear h
  have hx' := hide hx
  have hy' := hide hy
  clear hx hy
  go_enter Try.func12, Try.ntmps12
  go_wp2_with fail
  rw [hx'.out, hy'.out]
  refine (h'.out _).mono ?_
  rintro e w' ⟨rfl, rfl⟩
  simp only []
  go_wp2_with fail
  go_ret
  exact ⟨rfl, rfl⟩

theorem aluw_0 (x y : BitVec 64) : A 0 true x y ((x.setWidth 32 + y.setWidth 32).signExtend 64) := alu_word _ x y _ (short_0 _ _)
theorem aluw_8 (x y : BitVec 64) : A 8 true x y ((x.setWidth 32 + -(y.setWidth 32)).signExtend 64) := alu_word _ x y _ (short_8 _ _)
theorem aluw_1 (x y : BitVec 64) : A 1 true x y ((x.setWidth 32 <<< ((y.setWidth 32).toNat % 32)).signExtend 64) := alu_word _ x y _ (short_1 _ _)
theorem aluw_5 (x y : BitVec 64) : A 5 true x y ((x.setWidth 32 >>> ((y.setWidth 32).toNat % 32)).signExtend 64) := alu_word _ x y _ (short_5 _ _)
theorem aluw_13 (x y : BitVec 64) : A 13 true x y (((x.setWidth 32).sshiftRight ((y.setWidth 32).toNat % 32)).signExtend 64) := alu_word _ x y _ (short_13 _ _)
set_option maxRecDepth 100000 in
theorem short_other (f : Int) (x y : BitVec 32) (h8 : f ≠ 8) (h0 : f ≠ 0) (h1 : f ≠ 1) (h5 : f ≠ 5) (h13 : f ≠ 13) : S f x y 0 false := by
  intro w
  have x0 := x.isLt
  have y0 := y.isLt
  have hb := and31 y
  have hs : y.toNat % 32 < 32 := Nat.mod_lt _ (by omega)
  generalize hs0 : y.toNat % 32 = s at hb hs
  go_enter Try.func18, Try.ntmps18
  go_wp2
  refine bodyPost_ret (v := .tuple #[.int .u32 0, .bool false]) (by simp [results, Try.results18, go_sem]) rfl ?_
  exact ⟨rfl, rfl⟩
theorem aluw_other (f : Int) (x y : BitVec 64) (h8 : f ≠ 8) (h0 : f ≠ 0) (h1 : f ≠ 1) (h5 : f ≠ 5) (h13 : f ≠ 13) : A f true x y 0 := alu_wordless _ x y _ (short_other f _ _ h8 h0 h1 h5 h13)
set_option maxRecDepth 100000 in
theorem alu_other (f : Int) (x y : BitVec 64) (h8 : f ≠ 8) (h0 : f ≠ 0) (h1 : f ≠ 1) (h5 : f ≠ 5) (h13 : f ≠ 13) (h2 : f ≠ 2) (h3 : f ≠ 3) (h4 : f ≠ 4) (h6 : f ≠ 6) (h7 : f ≠ 7) : A f false x y 0 := by
  intro w
  have x0 := x.isLt
  have y0 := y.isLt
  have hb := and63 y
  have hs : y.toNat % 64 < 64 := Nat.mod_lt _ (by omega)
  generalize hs0 : y.toNat % 64 = s at hb hs
  go_enter Try.func12, Try.ntmps12
  go_wp2
  go_ret
  exact ⟨rfl, rfl⟩

end Go.Proofs.Ytnncifcfgjphlaa

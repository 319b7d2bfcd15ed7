/- AluJumps: the walk. -/
import Derived.Test.YtnncifcfgjphlaaTarget
import Derived.Deep.RegionHeld3
import Derived.Deep.DeepMust
namespace Go.Proofs.Ytnncifcfgjphlaa
open Go.RowKit
set_option linter.unusedVariables false
set_option maxHeartbeats 3200000
theorem and_one (s : BitVec 64) : s &&& 1#64 = BitVec.ofNat 64 (s.toNat % 2) := by
  apply BitVec.eq_of_toNat_eq
  have : s.toNat &&& (1#64).toNat = s.toNat % 2 := Nat.and_two_pow_sub_one_eq_mod _ 1
  rw [BitVec.toNat_and, this, BitVec.toNat_ofNat]; omega
theorem even_split (s : BitVec 64) : (s &&& ~~~1#64) + (s &&& 1#64) = s := by
  rw [BitVec.add_eq_or_of_and_eq_zero]
  · rw [← BitVec.and_or_distrib_left, BitVec.or_comm, BitVec.or_not_self, BitVec.and_allOnes]
  · rw [BitVec.and_assoc, ← BitVec.and_assoc (~~~1#64), BitVec.and_comm (~~~1#64) s, BitVec.and_assoc s, show ~~~1#64 &&& 1#64 = 0#64 from by decide]; simp
theorem even_and (s : BitVec 64) : (s &&& ~~~1#64) &&& 1#64 = 0#64 := by
  rw [BitVec.and_assoc, show ~~~1#64 &&& 1#64 = 0#64 from by decide, BitVec.and_zero]
theorem even_cases (s : BitVec 64) : s &&& ~~~1#64 = s ∨ (s &&& ~~~1#64) + 1#64 = s ∧ s &&& ~~~1#64 ≠ s := by
  have h := even_split s
  rw [and_one] at h
  rcases (by omega : s.toNat % 2 = 0 ∨ s.toNat % 2 = 1) with k | k <;> rw [k] at h
  · left; simpa using h
  · right
    refine ⟨h, fun e => ?_⟩
    rw [e] at h
    have := congrArg BitVec.toNat h
    rw [BitVec.toNat_add, BitVec.toNat_ofNat] at this
    have := s.isLt
    omega

set_option maxRecDepth 100000 in
theorem jumps_core (pc im a ni pi r s : Int)
    (hT : ∀ w : World, Calls Try.prog 16 #[.agg #[.int .i64 3, .int .i64 0, .int .i64 0, .int .i64 0, .int .i64 0, .int .u64 im, .int .i64 0, .bool false, .bool false, .bool false, .int .i64 0], .int .u64 pc, .int .u64 a] w fun e w' => e = .returned (.int .u64 pi) ∧ Below w.heap.size w w')
    (hB : ∀ w : World, Calls Try.prog 16 #[.agg #[.int .i64 5, .int .i64 0, .int .i64 0, .int .i64 0, .int .i64 0, .int .u64 ni, .int .i64 0, .bool false, .bool false, .bool false, .int .i64 0], .int .u64 pi, .int .u64 a] w fun e w' => e = .returned (.int .u64 pc) ∧ Below w.heap.size w w')
    (hR : ∀ w : World, Calls Try.prog 16 #[.agg #[.int .i64 4, .int .i64 0, .int .i64 0, .int .i64 0, .int .i64 0, .int .u64 im, .int .i64 0, .bool false, .bool false, .bool false, .int .i64 0], .int .u64 pc, .int .u64 a] w fun e w' => e = .returned (.int .u64 r) ∧ Below w.heap.size w w')
    (en : IntKind.u64.wrap (-im) = ni) (ea : IntKind.u64.wrap (a + im) = s) (ex : bits .and .u64 r 1 = 0) (b1 b2 : Bool) (t1 : (r == s) = b1) (t2 : (IntKind.u64.wrap (r + 1) == s) = b2) (hb12 : b1 = true ∨ b1 = false ∧ b2 = true) (W : World) :
    Calls Try.prog 10 #[.int .u64 pc, .int .u64 im, .int .u64 a] W fun e W' => e = .returned (.bool true) ∧ Below W.heap.size W W' := by
  have q0 : (pc == pc) = true := by simp
  have q00 : ((0 : Int) == 0) = true := rfl
  have t3 : (r == IntKind.u64.wrap (a + im)) = b1 := by rw [ea]; exact t1
  have t4 : (IntKind.u64.wrap (r + 1) == IntKind.u64.wrap (a + im)) = b2 := by rw [ea]; exact t2
  have q3 : (bits .and .u64 r 1 == 0) = true := by rw [ex]; rfl
  have TZ : Hid (∀ w w' : World, (w.cell? ⟨W.heap.size, 0, none⟩ = some (.int .i64 3) ∧ w.cell? ⟨W.heap.size, 1, none⟩ = some (.int .i64 0) ∧ w.cell? ⟨W.heap.size, 2, none⟩ = some (.int .i64 0) ∧ w.cell? ⟨W.heap.size, 3, none⟩ = some (.int .i64 0) ∧ w.cell? ⟨W.heap.size, 4, none⟩ = some (.int .i64 0) ∧ w.cell? ⟨W.heap.size, 5, none⟩ = some (.int .u64 im) ∧ w.cell? ⟨W.heap.size, 6, none⟩ = some (.int .i64 0) ∧ w.cell? ⟨W.heap.size, 7, none⟩ = some (.bool false) ∧ w.cell? ⟨W.heap.size, 8, none⟩ = some (.bool false) ∧ w.cell? ⟨W.heap.size, 9, none⟩ = some (.bool false) ∧ w.cell? ⟨W.heap.size, 10, none⟩ = some (.int .i64 0) ∧ w.cell? ⟨W.heap.size + 1, 0, none⟩ = some (.int .i64 5) ∧ w.cell? ⟨W.heap.size + 1, 1, none⟩ = some (.int .i64 0) ∧ w.cell? ⟨W.heap.size + 1, 2, none⟩ = some (.int .i64 0) ∧ w.cell? ⟨W.heap.size + 1, 3, none⟩ = some (.int .i64 0) ∧ w.cell? ⟨W.heap.size + 1, 4, none⟩ = some (.int .i64 0) ∧ w.cell? ⟨W.heap.size + 1, 5, none⟩ = some (.int .u64 ni) ∧ w.cell? ⟨W.heap.size + 1, 6, none⟩ = some (.int .i64 0) ∧ w.cell? ⟨W.heap.size + 1, 7, none⟩ = some (.bool false) ∧ w.cell? ⟨W.heap.size + 1, 8, none⟩ = some (.bool false) ∧ w.cell? ⟨W.heap.size + 1, 9, none⟩ = some (.bool false) ∧ w.cell? ⟨W.heap.size + 1, 10, none⟩ = some (.int .i64 0) ∧ Below W.heap.size W w ∧ W.heap.size + 1 < w.heap.size) → Below w.heap.size w w' → (w'.cell? ⟨W.heap.size, 0, none⟩ = some (.int .i64 3) ∧ w'.cell? ⟨W.heap.size, 1, none⟩ = some (.int .i64 0) ∧ w'.cell? ⟨W.heap.size, 2, none⟩ = some (.int .i64 0) ∧ w'.cell? ⟨W.heap.size, 3, none⟩ = some (.int .i64 0) ∧ w'.cell? ⟨W.heap.size, 4, none⟩ = some (.int .i64 0) ∧ w'.cell? ⟨W.heap.size, 5, none⟩ = some (.int .u64 im) ∧ w'.cell? ⟨W.heap.size, 6, none⟩ = some (.int .i64 0) ∧ w'.cell? ⟨W.heap.size, 7, none⟩ = some (.bool false) ∧ w'.cell? ⟨W.heap.size, 8, none⟩ = some (.bool false) ∧ w'.cell? ⟨W.heap.size, 9, none⟩ = some (.bool false) ∧ w'.cell? ⟨W.heap.size, 10, none⟩ = some (.int .i64 0) ∧ w'.cell? ⟨W.heap.size + 1, 0, none⟩ = some (.int .i64 5) ∧ w'.cell? ⟨W.heap.size + 1, 1, none⟩ = some (.int .i64 0) ∧ w'.cell? ⟨W.heap.size + 1, 2, none⟩ = some (.int .i64 0) ∧ w'.cell? ⟨W.heap.size + 1, 3, none⟩ = some (.int .i64 0) ∧ w'.cell? ⟨W.heap.size + 1, 4, none⟩ = some (.int .i64 0) ∧ w'.cell? ⟨W.heap.size + 1, 5, none⟩ = some (.int .u64 ni) ∧ w'.cell? ⟨W.heap.size + 1, 6, none⟩ = some (.int .i64 0) ∧ w'.cell? ⟨W.heap.size + 1, 7, none⟩ = some (.bool false) ∧ w'.cell? ⟨W.heap.size + 1, 8, none⟩ = some (.bool false) ∧ w'.cell? ⟨W.heap.size + 1, 9, none⟩ = some (.bool false) ∧ w'.cell? ⟨W.heap.size + 1, 10, none⟩ = some (.int .i64 0) ∧ Below W.heap.size W w' ∧ W.heap.size + 1 < w'.heap.size)) := hide fun w w' ⟨c0, c1, c2, c3, c4, c5, c6, c7, c8, c9, c10, d0, d1, d2, d3, d4, d5, d6, d7, d8, d9, d10, bw, lw⟩ k =>
    have lw' : W.heap.size < w.heap.size := Nat.lt_trans (Nat.lt_succ_self _) lw
    ⟨(k.cell lw').trans c0, (k.cell lw').trans c1, (k.cell lw').trans c2, (k.cell lw').trans c3, (k.cell lw').trans c4, (k.cell lw').trans c5, (k.cell lw').trans c6, (k.cell lw').trans c7, (k.cell lw').trans c8, (k.cell lw').trans c9, (k.cell lw').trans c10, (k.cell lw).trans d0, (k.cell lw).trans d1, (k.cell lw).trans d2, (k.cell lw).trans d3, (k.cell lw).trans d4, (k.cell lw).trans d5, (k.cell lw).trans d6, (k.cell lw).trans d7, (k.cell lw).trans d8, (k.cell lw).trans d9, (k.cell lw).trans d10, bw.trans (k.mono (by omega)), Nat.lt_of_lt_of_le lw k.size⟩
  have S0 : Hid ((fun w' : World => w'.cell? ⟨W.heap.size, 0, none⟩ = some (.int .i64 3) ∧ w'.cell? ⟨W.heap.size, 1, none⟩ = some (.int .i64 0) ∧ w'.cell? ⟨W.heap.size, 2, none⟩ = some (.int .i64 0) ∧ w'.cell? ⟨W.heap.size, 3, none⟩ = some (.int .i64 0) ∧ w'.cell? ⟨W.heap.size, 4, none⟩ = some (.int .i64 0) ∧ w'.cell? ⟨W.heap.size, 5, none⟩ = some (.int .u64 im) ∧ w'.cell? ⟨W.heap.size, 6, none⟩ = some (.int .i64 0) ∧ w'.cell? ⟨W.heap.size, 7, none⟩ = some (.bool false) ∧ w'.cell? ⟨W.heap.size, 8, none⟩ = some (.bool false) ∧ w'.cell? ⟨W.heap.size, 9, none⟩ = some (.bool false) ∧ w'.cell? ⟨W.heap.size, 10, none⟩ = some (.int .i64 0) ∧ w'.cell? ⟨W.heap.size + 1, 0, none⟩ = some (.int .i64 5) ∧ w'.cell? ⟨W.heap.size + 1, 1, none⟩ = some (.int .i64 0) ∧ w'.cell? ⟨W.heap.size + 1, 2, none⟩ = some (.int .i64 0) ∧ w'.cell? ⟨W.heap.size + 1, 3, none⟩ = some (.int .i64 0) ∧ w'.cell? ⟨W.heap.size + 1, 4, none⟩ = some (.int .i64 0) ∧ w'.cell? ⟨W.heap.size + 1, 5, none⟩ = some (.int .u64 ni) ∧ w'.cell? ⟨W.heap.size + 1, 6, none⟩ = some (.int .i64 0) ∧ w'.cell? ⟨W.heap.size + 1, 7, none⟩ = some (.bool false) ∧ w'.cell? ⟨W.heap.size + 1, 8, none⟩ = some (.bool false) ∧ w'.cell? ⟨W.heap.size + 1, 9, none⟩ = some (.bool false) ∧ w'.cell? ⟨W.heap.size + 1, 10, none⟩ = some (.int .i64 0) ∧ Below W.heap.size W w' ∧ W.heap.size + 1 < w'.heap.size) ((W.alloc (.cells #[.int .i64 3, .int .i64 0, .int .i64 0, .int .i64 0, .int .i64 0, .int .u64 im, .int .i64 0, .bool false, .bool false, .bool false, .int .i64 0] 34)).alloc (.cells #[.int .i64 5, .int .i64 0, .int .i64 0, .int .i64 0, .int .i64 0, .int .u64 ni, .int .i64 0, .bool false, .bool false, .bool false, .int .i64 0] 34))) := hide ⟨by rw [World.cell?_alloc_lt _ _ _ (by simp), World.cell?_alloc_new]; rfl, by rw [World.cell?_alloc_lt _ _ _ (by simp), World.cell?_alloc_new]; rfl, by rw [World.cell?_alloc_lt _ _ _ (by simp), World.cell?_alloc_new]; rfl, by rw [World.cell?_alloc_lt _ _ _ (by simp), World.cell?_alloc_new]; rfl, by rw [World.cell?_alloc_lt _ _ _ (by simp), World.cell?_alloc_new]; rfl, by rw [World.cell?_alloc_lt _ _ _ (by simp), World.cell?_alloc_new]; rfl, by rw [World.cell?_alloc_lt _ _ _ (by simp), World.cell?_alloc_new]; rfl, by rw [World.cell?_alloc_lt _ _ _ (by simp), World.cell?_alloc_new]; rfl, by rw [World.cell?_alloc_lt _ _ _ (by simp), World.cell?_alloc_new]; rfl, by rw [World.cell?_alloc_lt _ _ _ (by simp), World.cell?_alloc_new]; rfl, by rw [World.cell?_alloc_lt _ _ _ (by simp), World.cell?_alloc_new]; rfl, by rw [World.cell?_alloc2_new]; rfl, by rw [World.cell?_alloc2_new]; rfl, by rw [World.cell?_alloc2_new]; rfl, by rw [World.cell?_alloc2_new]; rfl, by rw [World.cell?_alloc2_new]; rfl, by rw [World.cell?_alloc2_new]; rfl, by rw [World.cell?_alloc2_new]; rfl, by rw [World.cell?_alloc2_new]; rfl, by rw [World.cell?_alloc2_new]; rfl, by rw [World.cell?_alloc2_new]; rfl, by rw [World.cell?_alloc2_new]; rfl, (below_alloc _ _).trans ((below_alloc _ _).mono (by simp)), by simp⟩
  have SD : Hid (∀ w : World, (fun w' : World => w'.cell? ⟨W.heap.size, 0, none⟩ = some (.int .i64 3) ∧ w'.cell? ⟨W.heap.size, 1, none⟩ = some (.int .i64 0) ∧ w'.cell? ⟨W.heap.size, 2, none⟩ = some (.int .i64 0) ∧ w'.cell? ⟨W.heap.size, 3, none⟩ = some (.int .i64 0) ∧ w'.cell? ⟨W.heap.size, 4, none⟩ = some (.int .i64 0) ∧ w'.cell? ⟨W.heap.size, 5, none⟩ = some (.int .u64 im) ∧ w'.cell? ⟨W.heap.size, 6, none⟩ = some (.int .i64 0) ∧ w'.cell? ⟨W.heap.size, 7, none⟩ = some (.bool false) ∧ w'.cell? ⟨W.heap.size, 8, none⟩ = some (.bool false) ∧ w'.cell? ⟨W.heap.size, 9, none⟩ = some (.bool false) ∧ w'.cell? ⟨W.heap.size, 10, none⟩ = some (.int .i64 0) ∧ w'.cell? ⟨W.heap.size + 1, 0, none⟩ = some (.int .i64 5) ∧ w'.cell? ⟨W.heap.size + 1, 1, none⟩ = some (.int .i64 0) ∧ w'.cell? ⟨W.heap.size + 1, 2, none⟩ = some (.int .i64 0) ∧ w'.cell? ⟨W.heap.size + 1, 3, none⟩ = some (.int .i64 0) ∧ w'.cell? ⟨W.heap.size + 1, 4, none⟩ = some (.int .i64 0) ∧ w'.cell? ⟨W.heap.size + 1, 5, none⟩ = some (.int .u64 ni) ∧ w'.cell? ⟨W.heap.size + 1, 6, none⟩ = some (.int .i64 0) ∧ w'.cell? ⟨W.heap.size + 1, 7, none⟩ = some (.bool false) ∧ w'.cell? ⟨W.heap.size + 1, 8, none⟩ = some (.bool false) ∧ w'.cell? ⟨W.heap.size + 1, 9, none⟩ = some (.bool false) ∧ w'.cell? ⟨W.heap.size + 1, 10, none⟩ = some (.int .i64 0) ∧ Below W.heap.size W w' ∧ W.heap.size + 1 < w'.heap.size) w → (fun w' : World => w'.cell? ⟨W.heap.size, 0, none⟩ = some (.int .i64 3) ∧ w'.cell? ⟨W.heap.size, 1, none⟩ = some (.int .i64 0) ∧ w'.cell? ⟨W.heap.size, 2, none⟩ = some (.int .i64 0) ∧ w'.cell? ⟨W.heap.size, 3, none⟩ = some (.int .i64 0) ∧ w'.cell? ⟨W.heap.size, 4, none⟩ = some (.int .i64 0) ∧ w'.cell? ⟨W.heap.size, 5, none⟩ = some (.int .u64 im) ∧ w'.cell? ⟨W.heap.size, 6, none⟩ = some (.int .i64 0) ∧ w'.cell? ⟨W.heap.size, 7, none⟩ = some (.bool false) ∧ w'.cell? ⟨W.heap.size, 8, none⟩ = some (.bool false) ∧ w'.cell? ⟨W.heap.size, 9, none⟩ = some (.bool false) ∧ w'.cell? ⟨W.heap.size, 10, none⟩ = some (.int .i64 0) ∧ w'.cell? ⟨W.heap.size + 1, 0, none⟩ = some (.int .i64 5) ∧ w'.cell? ⟨W.heap.size + 1, 1, none⟩ = some (.int .i64 0) ∧ w'.cell? ⟨W.heap.size + 1, 2, none⟩ = some (.int .i64 0) ∧ w'.cell? ⟨W.heap.size + 1, 3, none⟩ = some (.int .i64 0) ∧ w'.cell? ⟨W.heap.size + 1, 4, none⟩ = some (.int .i64 0) ∧ w'.cell? ⟨W.heap.size + 1, 5, none⟩ = some (.int .u64 ni) ∧ w'.cell? ⟨W.heap.size + 1, 6, none⟩ = some (.int .i64 0) ∧ w'.cell? ⟨W.heap.size + 1, 7, none⟩ = some (.bool false) ∧ w'.cell? ⟨W.heap.size + 1, 8, none⟩ = some (.bool false) ∧ w'.cell? ⟨W.heap.size + 1, 9, none⟩ = some (.bool false) ∧ w'.cell? ⟨W.heap.size + 1, 10, none⟩ = some (.int .i64 0) ∧ Below W.heap.size W w' ∧ W.heap.size + 1 < w'.heap.size) w.drew) := hide fun w ⟨c0, c1, c2, c3, c4, c5, c6, c7, c8, c9, c10, d0, d1, d2, d3, d4, d5, d6, d7, d8, d9, d10, bw, lw⟩ =>
    ⟨c0, c1, c2, c3, c4, c5, c6, c7, c8, c9, c10, d0, d1, d2, d3, d4, d5, d6, d7, d8, d9, d10, bw.drew, lw⟩
  replace hT := hide hT
  replace hB := hide hB
  replace hR := hide hR
  rcases hb12 with rfl | ⟨rfl, rfl⟩
  all_goals
    go_enter Try.func10, Try.ntmps10
    go_wp2_with fail
    refine (hR.out _).mono ?_
    rintro e w1 ⟨rfl, hb⟩
    have F1 := hide (TZ.out _ _ S0.out hb)
    clear hb
    simp only []
    have G1 := hide (SD.out _ F1.out)
    obtain ⟨_, _, _, _, _, _, _, _, _, _, _, _, _, _, _, _, _, _, _, _, _, _, _, _⟩ := F1.out
    go_wp2_with fail
    first
    | (go_region_held (fun w' => w'.cell? ⟨W.heap.size, 0, none⟩ = some (.int .i64 3) ∧ w'.cell? ⟨W.heap.size, 1, none⟩ = some (.int .i64 0) ∧ w'.cell? ⟨W.heap.size, 2, none⟩ = some (.int .i64 0) ∧ w'.cell? ⟨W.heap.size, 3, none⟩ = some (.int .i64 0) ∧ w'.cell? ⟨W.heap.size, 4, none⟩ = some (.int .i64 0) ∧ w'.cell? ⟨W.heap.size, 5, none⟩ = some (.int .u64 im) ∧ w'.cell? ⟨W.heap.size, 6, none⟩ = some (.int .i64 0) ∧ w'.cell? ⟨W.heap.size, 7, none⟩ = some (.bool false) ∧ w'.cell? ⟨W.heap.size, 8, none⟩ = some (.bool false) ∧ w'.cell? ⟨W.heap.size, 9, none⟩ = some (.bool false) ∧ w'.cell? ⟨W.heap.size, 10, none⟩ = some (.int .i64 0) ∧ w'.cell? ⟨W.heap.size + 1, 0, none⟩ = some (.int .i64 5) ∧ w'.cell? ⟨W.heap.size + 1, 1, none⟩ = some (.int .i64 0) ∧ w'.cell? ⟨W.heap.size + 1, 2, none⟩ = some (.int .i64 0) ∧ w'.cell? ⟨W.heap.size + 1, 3, none⟩ = some (.int .i64 0) ∧ w'.cell? ⟨W.heap.size + 1, 4, none⟩ = some (.int .i64 0) ∧ w'.cell? ⟨W.heap.size + 1, 5, none⟩ = some (.int .u64 ni) ∧ w'.cell? ⟨W.heap.size + 1, 6, none⟩ = some (.int .i64 0) ∧ w'.cell? ⟨W.heap.size + 1, 7, none⟩ = some (.bool false) ∧ w'.cell? ⟨W.heap.size + 1, 8, none⟩ = some (.bool false) ∧ w'.cell? ⟨W.heap.size + 1, 9, none⟩ = some (.bool false) ∧ w'.cell? ⟨W.heap.size + 1, 10, none⟩ = some (.int .i64 0) ∧ Below W.heap.size W w' ∧ W.heap.size + 1 < w'.heap.size) (first | exact G1.out | assumption)
      (first
        | (go_at_call 11; refine (awake_c _).mono ?_; rintro e w5 ⟨rfl, rfl⟩)
        | (go_at_call_of 16 pi; refine (hB.out _).mono ?_; rintro e w5 ⟨rfl, hb⟩; have F5 := TZ.out _ _ (by assumption) hb; clear hb)
        | (go_at_call 16; refine (hT.out _).mono ?_; rintro e w5 ⟨rfl, hb⟩; have F5 := TZ.out _ _ (by assumption) hb; clear hb)))
    | fail
  all_goals
    rename_i hH9
    have F9 := hide hH9.2.2.2.2.2.2.2.2.2.2.2.2.2.2.2.2.2.2.2.2.2.2.1
    clear hH9 F1 G1
    go_wp2_with fail
    go_ret
    exact ⟨rfl, F9.out⟩
end Go.Proofs.Ytnncifcfgjphlaa


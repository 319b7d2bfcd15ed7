/- AluOrders: the walk. -/
import Derived.Test.YtnncifcfgjphlaaAluB
namespace Go.Proofs.Ytnncifcfgjphlaa
open Go.RowKit
set_option linter.unusedVariables false
set_option maxHeartbeats 3200000
set_option maxRecDepth 100000 in
theorem orders_core (x y : BitVec 64) (eq nq bl bg bu bv : Bool) (l g lu gu : BitVec 64)
    (hl : A 2 false x y l) (hg : A 2 false y x g) (hlu : A 3 false x y lu) (hgu : A 3 false y x gu)
    (b0 : B 0 x y eq) (b1 : B 1 x y nq) (b4 : B 4 x y bl) (b5 : B 5 x y bg) (b6 : B 6 x y bu) (b7 : B 7 x y bv)
    (ee : ((x.toNat : Int) == (y.toNat : Int)) = eq)
    (ok : l = 0 ∧ g = 0 ∧ lu = 0 ∧ gu = 0 ∧ eq = true ∧ nq = false ∧ bl = false ∧ bg = true ∧ bu = false ∧ bv = true
      ∨ eq = false ∧ nq = true ∧ (l = 1 ∧ g = 0 ∧ bl = true ∧ bg = false ∨ l = 0 ∧ g = 1 ∧ bl = false ∧ bg = true) ∧ (lu = 1 ∧ gu = 0 ∧ bu = true ∧ bv = false ∨ lu = 0 ∧ gu = 1 ∧ bu = false ∧ bv = true)) (W : World) :
    Calls Try.prog 6 #[.int .u64 x.toNat, .int .u64 y.toNat] W fun e W' => e = .returned (.bool true) ∧ W' = W := by
  replace hl := hide hl
  replace hg := hide hg
  replace hlu := hide hlu
  replace hgu := hide hgu
  replace b0 := hide b0
  replace b1 := hide b1
  replace b4 := hide b4
  replace b5 := hide b5
  replace b6 := hide b6
  replace b7 := hide b7
  have z0 : ((0#64).toNat : Int) = 0 := rfl
  have z1 : ((1#64).toNat : Int) = 1 := rfl
  rcases ok with ⟨rfl, rfl, rfl, rfl, rfl, rfl, rfl, rfl, rfl, rfl⟩ | ⟨rfl, rfl, ⟨rfl, rfl, rfl, rfl⟩ | ⟨rfl, rfl, rfl, rfl⟩, ⟨rfl, rfl, rfl, rfl⟩ | ⟨rfl, rfl, rfl, rfl⟩⟩
  all_goals
    go_enter Try.func6, Try.ntmps6
    go_wp2_with fail
    refine (hl.out _).mono ?_
    rintro e w' ⟨rfl, rfl⟩
    simp only []
    go_wp2_with fail
    refine (hg.out _).mono ?_
    rintro e w' ⟨rfl, rfl⟩
    simp only []
    go_wp2_with fail
    refine (hlu.out _).mono ?_
    rintro e w' ⟨rfl, rfl⟩
    simp only []
    go_wp2_with fail
    refine (hgu.out _).mono ?_
    rintro e w' ⟨rfl, rfl⟩
    simp only []
    go_wp2_with fail
    refine (awake_c _).mono ?_
    rintro e w' ⟨rfl, rfl⟩
    simp only []
    go_wp2_with fail
    refine (b0.out _).mono ?_
    rintro e w' ⟨rfl, rfl⟩
    simp only []
    go_wp2_with fail
    refine (b1.out _).mono ?_
    rintro e w' ⟨rfl, rfl⟩
    simp only []
    go_wp2_with fail
    refine (b4.out _).mono ?_
    rintro e w' ⟨rfl, rfl⟩
    simp only []
    go_wp2_with fail
    refine (b5.out _).mono ?_
    rintro e w' ⟨rfl, rfl⟩
    simp only []
    go_wp2_with fail
    refine (b6.out _).mono ?_
    rintro e w' ⟨rfl, rfl⟩
    simp only []
    go_wp2_with fail
    refine (b7.out _).mono ?_
    rintro e w' ⟨rfl, rfl⟩
    simp only []
    go_wp2_with fail
    refine (b4.out _).mono ?_
    rintro e w' ⟨rfl, rfl⟩
    simp only []
    go_wp2_with fail
    refine (b6.out _).mono ?_
    rintro e w' ⟨rfl, rfl⟩
    simp only []
    go_wp2_with fail
    go_ret
    exact ⟨rfl, rfl⟩
theorem orders_walk (a b : Int) (ha : (Lit.int .u64 a).wf = true) (hb : (Lit.int .u64 b).wf = true) (W : World) :
    Calls Try.prog 6 #[.int .u64 a, .int .u64 b] W fun e W' => e = .returned (.bool true) ∧ W' = W := by
  obtain ⟨x, rfl⟩ := of_u64 ha
  obtain ⟨y, rfl⟩ := of_u64 hb
  clear ha hb
  refine orders_core x y (decide (x = y)) (!decide (x = y)) (decide (x.toInt < y.toInt)) (decide (y.toInt ≤ x.toInt)) (decide (x.toNat < y.toNat)) (decide (y.toNat ≤ x.toNat)) _ _ _ _
    (alu_2 x y) (alu_2 y x) (alu_3 x y) (alu_3 y x) (br_0 x y _ (nat_beq x y)) (br_1 x y _ (congrArg _ (nat_beq x y))) (br_4 x y _ rfl) (br_5 x y _ rfl) (br_6 x y _ rfl) (br_7 x y _ rfl) (nat_beq x y) ?_ W
  by_cases h : x = y
  · subst h
    left
    simp
  · right
    have h1 : x.toNat ≠ y.toNat := fun e => h (BitVec.eq_of_toNat_eq e)
    have h2 : x.toInt ≠ y.toInt := fun e => h (BitVec.eq_of_toInt_eq e)
    refine ⟨decide_eq_false h, by simp [h], ?_, ?_⟩
    · rcases Int.lt_or_gt_of_ne h2 with k | k
      · left; exact ⟨if_pos k, if_neg (by omega), decide_eq_true k, decide_eq_false (by omega)⟩
      · right; exact ⟨if_neg (by omega), if_pos k, decide_eq_false (by omega), decide_eq_true (by omega)⟩
    · rcases Nat.lt_or_gt_of_ne h1 with k | k
      · left; exact ⟨if_pos k, if_neg (by omega), decide_eq_true k, decide_eq_false (by omega)⟩
      · right; exact ⟨if_neg (by omega), if_pos k, decide_eq_false (by omega), decide_eq_true (by omega)⟩
theorem orders_w (W : World) (a : Int) (ha : (Lit.int .u64 a).wf = true) (b : Int) (hb : (Lit.int .u64 b).wf = true) :
    Calls Try.prog 6 #[.int .u64 a, .int .u64 b] W fun e W' => e = .returned (.bool true) ∧ Below W.heap.size W W' := (orders_walk a b ha hb W).mono fun _ _ h => below_same h
end Go.Proofs.Ytnncifcfgjphlaa

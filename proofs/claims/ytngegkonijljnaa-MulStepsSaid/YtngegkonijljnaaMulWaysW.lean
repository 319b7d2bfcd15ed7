/- MulWays: the walk. -/
import Derived.Test.YtngegkonijljnaaMulWholeW
import Derived.Deep.DeepCutAuto
import Derived.Deep.CutBlock
import Derived.Deep.LoopGhost
namespace Go.Proofs.Ytngegkonijljnaa
open Go.RowKit
set_option linter.unusedVariables false
set_option linter.unusedSimpArgs false
set_option maxHeartbeats 1600000
theorem quo_any (f : Int) (x y : BitVec 64) (h4 : 4 ≤ f) (h7 : f ≤ 7) : ∃ r, Q f x y r := by
  by_cases h : y = 0#64
  · subst h
    obtain rfl | rfl | rfl | rfl : f = 4 ∨ f = 5 ∨ f = 6 ∨ f = 7 := by omega
    · exact ⟨_, quo_4z x⟩
    · exact ⟨_, quo_5z x⟩
    · exact ⟨_, quo_6z x⟩
    · exact ⟨_, quo_7z x⟩
  · obtain rfl | rfl | rfl | rfl : f = 4 ∨ f = 5 ∨ f = 6 ∨ f = 7 := by omega
    · exact ⟨_, quo_4 x y h⟩
    · exact ⟨_, quo_5 x y h⟩
    · exact ⟨_, quo_6 x y h⟩
    · exact ⟨_, quo_7 x y h⟩
theorem res_any (f : Int) (word : Bool) (x y : BitVec 64) (f0 : 0 ≤ f) (f7 : f ≤ 7) (fw : word = true → f ≤ 0 ∨ 4 ≤ f) : ∃ r q, R f word x y r ∧ Qk f word x y q := by
  cases word
  · by_cases h4 : 4 ≤ f
    · obtain ⟨r, hr⟩ := quo_any f x y h4 f7
      have hR : R f false x y r := r_q (by omega) (by omega) (by omega) (by omega) hr
      obtain rfl | rfl | rfl | rfl : f = 4 ∨ f = 5 ∨ f = 6 ∨ f = 7 := by omega
      · exact ⟨r, _, hR, quick_4f x y⟩
      · exact ⟨r, _, hR, quick_5f x y⟩
      · exact ⟨r, _, hR, quick_6f x y⟩
      · exact ⟨r, _, hR, quick_7f x y⟩
    · have hq := quick_less f false x y (by omega)
      obtain rfl | rfl | rfl | rfl : f = 0 ∨ f = 1 ∨ f = 2 ∨ f = 3 := by omega
      · exact ⟨_, _, r_0 x y, hq⟩
      · exact ⟨_, _, r_1 x y, hq⟩
      · exact ⟨_, _, r_2 x y, hq⟩
      · exact ⟨_, _, r_3 x y, hq⟩
  · rcases fw rfl with h | h
    · obtain rfl : f = 0 := by omega
      exact ⟨_, _, result_short _ _ _ _ (short_0 _ _), quick_less 0 true x y (by omega)⟩
    · obtain rfl | rfl | rfl | rfl : f = 4 ∨ f = 5 ∨ f = 6 ∨ f = 7 := by omega
      · obtain ⟨r, hr⟩ := quo_any 4 _ _ (by omega) (by omega); exact ⟨_, _, result_short _ _ _ _ (short_4 _ _ r hr), quick_4t x y⟩
      · obtain ⟨r, hr⟩ := quo_any 5 _ _ (by omega) (by omega); exact ⟨_, _, result_short _ _ _ _ (short_5 _ _ r hr), quick_5t x y⟩
      · obtain ⟨r, hr⟩ := quo_any 6 _ _ (by omega) (by omega); exact ⟨_, _, result_short _ _ _ _ (short_6 _ _ r hr), quick_6t x y⟩
      · obtain ⟨r, hr⟩ := quo_any 7 _ _ (by omega) (by omega); exact ⟨_, _, result_short _ _ _ _ (short_7 _ _ r hr), quick_7t x y⟩
set_option maxRecDepth 100000 in
theorem ways_bad (f : Int) (word : Bool) (x y : Int) (drop : Int) (hf : f < 0 ∨ 7 < f ∨ word = true ∧ 0 < f ∧ f < 4) (W : World) :
    Calls Try.prog 10 #[.int .i64 f, .bool word, .int .u64 x, .int .u64 y, .int .i64 drop] W fun e W' => e = .returned (.bool true) ∧ Below W.heap.size W W' := by
  have N := hide (new_c W)
  have SB := hide (fun (w : World) (h : U w W.heap.size false 0 0) => start_arg h f word x y hf)
  clear hf
  go_enter Try.func10, Try.ntmps10
  go_wp2_with fail
  refine N.out.mono ?_
  rintro e w1 ⟨rfl, hu, hb⟩
  have U1 := hide hu
  have B1 := hide hb
  clear hu hb
  simp only []
  go_wp2_with fail
  refine (awake_c _).mono ?_
  rintro e w2 ⟨rfl, hb⟩
  have U2 := hide (U1.out.later hb U1.out.2.2.2.2.2)
  have B2 := hide (B1.out.trans (hb.mono B1.out.size))
  clear hb
  simp only []
  go_wp2_with fail
  refine (SB.out _ U2.out).mono ?_
  rintro e w3 ⟨rfl, rfl⟩
  simp only []
  go_wp2_with fail
  refine (left_c U2.out).mono ?_
  rintro e w3 ⟨rfl, rfl⟩
  simp only []
  go_wp2_with fail
  refine (step_zero U2.out).mono ?_
  rintro e w3 ⟨rfl, rfl⟩
  simp only []
  go_wp2_with fail
  go_ret
  exact ⟨rfl, B2.out⟩
set_option maxRecDepth 100000 in
theorem ways_ok (f : Int) (word : Bool) (x y r : BitVec 64) (N : Nat) (drop : Int) (n1 : 1 ≤ N) (n64 : N ≤ 64)
    (hS : ∀ (w : World) (b : Nat) (out : Int), U w b false 0 out → Calls Try.prog 16 #[.pointer (some ⟨b, 0, none⟩), .int .i64 f, .bool word, .int .u64 x.toNat, .int .u64 y.toNat] w fun e w' => e = .returned (.int .i64 0) ∧ U w' b true N r.toNat ∧ K w w' b)
    (hR : R f word x y r) (W : World) :
    Calls Try.prog 10 #[.int .i64 f, .bool word, .int .u64 x.toNat, .int .u64 y.toNat, .int .i64 drop] W fun e W' => e = .returned (.bool true) ∧ Below W.heap.size W W' := by
  have NW := hide (new_c W)
  replace hS := hide hS
  replace hR := hide hR
  have q' : ∀ n : Int, (n == n) = true := fun n => by simp
  have dn1 : decide ((N : Int) < 1) = false := decide_eq_false (by omega)
  have dn2 : decide (64 < (N : Int)) = false := decide_eq_false (by omega)
  go_enter Try.func10, Try.ntmps10
  go_wp2_with fail
  refine NW.out.mono ?_
  rintro e w1 ⟨rfl, hu, hb⟩
  have U1 := hide hu
  have B1 := hide hb
  clear hu hb
  simp only []
  go_wp2_with fail
  refine (awake_c _).mono ?_
  rintro e w2 ⟨rfl, hb⟩
  have U2 := hide (U1.out.later hb U1.out.2.2.2.2.2)
  have B2 := hide (B1.out.trans (hb.mono B1.out.size))
  clear hb
  simp only []
  go_wp2_with fail
  refine (hS.out _ _ _ U2.out).mono ?_
  rintro e w3 ⟨rfl, hu, hk⟩
  have U3 := hide hu
  have B3 := hide (B2.out.trans (hk.2 _ (Nat.le_refl _)))
  clear hu hk B1 B2 U1 U2
  simp only []
  go_wp2_with fail
  refine (left_c U3.out).mono ?_
  rintro e w4 ⟨rfl, rfl⟩
  simp only []
  go_wp2_with fail
  go_loopg [13, 14, 15] N (fun g vk v14 v15 wr => ∃ k : Nat, k = g ∧ k ≤ N ∧ vk = .int .i64 k ∧ Hid (U wr W.heap.size true k r.toNat ∧ Below W.heap.size W wr))
  case atStart => exact ⟨N, rfl, Nat.le_refl _, rfl, U3.out, B3.out⟩
  case round =>
    obtain ⟨k, hk, hkN, rfl, hQ⟩ := hrel
    by_cases hk0 : 0 < k
    · obtain ⟨j, rfl⟩ : ∃ j, k = j + 1 := ⟨k - 1, by omega⟩
      have T1 := hide (take_not hQ.out.1 (.inr ⟨rfl, by omega⟩))
      have L1 := hide (left_c hQ.out.1)
      have D1 := hide (drop_yes hQ.out.1)
      have P1 := hide (step_more hQ.out.1 (by omega))
      have ej : ((j + 1 : Nat) : Int) = (j : Int) + 1 := by omega
      have e1 : wrap64 ((N : Int) - ((j : Int) + 1)) = (N : Int) - ((j : Int) + 1) := by unfold wrap64; omega
      have e2 : wrap64 ((j : Int) + 1 - 1) = j := by unfold wrap64; omega
      have dk : decide (0 < (j : Int) + 1) = true := decide_eq_true (by omega)
      go_wp2_with fail
      refine T1.out.mono ?_
      rintro e w5 ⟨rfl, rfl⟩
      simp only []
      go_wp2_with fail
      refine L1.out.mono ?_
      rintro e w5 ⟨rfl, rfl⟩
      simp only []
      by_cases hd : (N : Int) - ((j : Int) + 1) = drop
      · have hd2 : ((N : Int) - ((j : Int) + 1) == drop) = true := by simpa using hd
        clear hd
        go_wp2_with fail
        refine T1.out.mono ?_
        rintro e w5 ⟨rfl, rfl⟩
        simp only []
        go_wp2_with fail
        refine D1.out.mono ?_
        rintro e w5 ⟨rfl, hu, hk⟩
        have U5 := hide hu
        have B5 := hide (hQ.out.2.trans (hk.2 _ (Nat.le_refl _)))
        clear hu hk
        simp only []
        go_wp2_with fail
        refine (left_c U5.out).mono ?_
        rintro e w6 ⟨rfl, rfl⟩
        simp only []
        go_wp2_with fail
        refine (hS.out _ _ _ U5.out).mono ?_
        rintro e w7 ⟨rfl, hu, hk⟩
        have B7 := hide (B5.out.trans (hk.2 _ (Nat.le_refl _)))
        clear hu hk
        simp only []
        go_wp2_with fail
        go_ret
        exact ⟨rfl, B7.out⟩
      · have hd2 : ((N : Int) - ((j : Int) + 1) == drop) = false := beq_eq_false_iff_ne.2 hd
        clear hd
        go_wp2_with fail
        refine P1.out.mono ?_
        rintro e w5 ⟨rfl, hu, hk⟩
        have U5 := hide hu
        have B5 := hide (hQ.out.2.trans (hk.2 _ (Nat.le_refl _)))
        clear hu hk
        simp only []
        go_wp2
        go_roundg j
        case measure => omega
        case rel => exact ⟨j, rfl, by omega, by go_num, U5.out, B5.out⟩
    · obtain rfl : k = 0 := by omega
      clear hk hk0 hkN
      have U0 := hide (show U wr W.heap.size true (0 : Int) r.toNat from by have := hQ.out.1; rwa [show ((0 : Nat) : Int) = 0 from rfl] at this)
      go_wp2_with fail
      refine (take_done U0.out).mono ?_
      rintro e w5 ⟨rfl, hu, hk⟩
      have U5 := hide hu
      have B5 := hide (hQ.out.2.trans (hk.2 _ (Nat.le_refl _)))
      clear hu hk
      simp only []
      go_wp2_with fail
      refine (take_not U5.out (.inl rfl)).mono ?_
      rintro e w6 ⟨rfl, rfl⟩
      simp only []
      go_wp2_with fail
      refine (hR.out _).mono ?_
      rintro e w6 ⟨rfl, rfl⟩
      simp only []
      go_wp2_with fail
      refine (step_zero U5.out).mono ?_
      rintro e w6 ⟨rfl, rfl⟩
      simp only []
      go_wp2_with fail
      go_ret
      exact ⟨rfl, B5.out⟩
theorem ways_w (W : World) (f : Int) (_ : (Lit.int .i64 f).wf = true) (word : Bool) (x : Int) (hx : (Lit.int .u64 x).wf = true) (y : Int) (hy : (Lit.int .u64 y).wf = true) (drop : Int) (_ : (Lit.int .i64 drop).wf = true) :
    Calls Try.prog 10 #[.int .i64 f, .bool word, .int .u64 x, .int .u64 y, .int .i64 drop] W fun e W' => e = .returned (.bool true) ∧ Below W.heap.size W W' := by
  by_cases h : f < 0 ∨ 7 < f ∨ word = true ∧ 0 < f ∧ f < 4
  · exact ways_bad f word x y drop h W
  obtain ⟨x, rfl⟩ := of_u64 hx
  obtain ⟨y, rfl⟩ := of_u64 hy
  have fw : word = true → f ≤ 0 ∨ 4 ≤ f := fun e => by
    by_cases c : 4 ≤ f
    · exact .inr c
    · left
      by_cases d : f ≤ 0
      · exact d
      · exact absurd (.inr (.inr ⟨e, by omega, by omega⟩)) h
  have f0 : 0 ≤ f := by
    by_cases c : f < 0
    · exact absurd (.inl c) h
    · omega
  have f7 : f ≤ 7 := by
    by_cases c : 7 < f
    · exact absurd (.inr (.inl c)) h
    · omega
  obtain ⟨r, q, hr, hq⟩ := res_any f word x y f0 f7 fw
  cases q
  · cases word
    · exact ways_ok f false x y r 64 drop (by omega) (by omega) (fun w b out hu => start_ok hu f false x y r false f0 f7 fw hr hq 64 rfl) hr W
    · exact ways_ok f true x y r 32 drop (by omega) (by omega) (fun w b out hu => start_ok hu f true x y r false f0 f7 fw hr hq 32 rfl) hr W
  · exact ways_ok f word x y r 1 drop (by omega) (by omega) (fun w b out hu => start_ok hu f word x y r true f0 f7 fw hr hq 1 rfl) hr W
end Go.Proofs.Ytngegkonijljnaa


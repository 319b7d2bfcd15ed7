/- The walks of QueueEpochs and QueueNil. -/
import Derived.Test.YtkjgklpdoomjcaaQueueL
import Derived.Test.YtkjgklpdoomjcaaOpenT
import Derived.Deep.DeepCutAuto
import Derived.Deep.CutBlock
import Derived.Deep.LoopGhost
namespace Go.Proofs.Ytkjgklpdoomjcaa
open Go.RowKit

theorem epochs_n (n : Int) : ∃ N : Nat, N < 20 ∧ wrap64 ((IntKind.u64.wrap n).tmod 20) = N := by
  refine ⟨((n % 18446744073709551616) % 20).toNat, by omega, ?_⟩
  rw [IntKind.wrap_u64, Int.tmod_eq_emod_of_nonneg (by omega)]
  unfold wrap64
  omega

set_option linter.unusedVariables false in
set_option maxRecDepth 100000 in
theorem epochs_walk (w : World) (n : Int) (wn : (Lit.int .i64 n).wf = true) (a : Option Addr) (len cap : Nat) (z : Nat → Int) (hlen : len ≤ 9223372036854775807) (hr : IntRow .u64 w a len z) :
    Calls Try.prog 4 #[.int .i64 n, .slice a len cap] w fun e w' => e = .returned (.bool true) ∧ Below w.heap.size w w' := by
  obtain ⟨N, N1, hN⟩ := epochs_n n
  have HR := hide hr
  have HN := hide hN
  clear hr hN
  go_enter Try.func4, Try.ntmps4
  go_wp2_with fail
  refine (lnew 16 _ (by omega) (by omega)).mono ?_
  rintro e w1 ⟨rfl, hg, hz, hq⟩
  have B1 := hide (below_none (Below.refl w.heap.size w) hg (Nat.le_refl _))
  have Q1 := hide hq
  clear hg hq
  simp only []
  go_wp2_with fail
  refine (awake22 _).mono ?_
  rintro e w2 ⟨rfl, hg⟩
  have B2 := hide (below_none B1.out hg (Nat.le_of_lt hz))
  have hz2 : w.heap.size < w2.heap.size := Nat.lt_of_lt_of_le hz hg.size
  have Q2 := hide (Q1.out.grown hg (by simp))
  clear hg hz
  simp only []
  go_wp2_with fail
  rw [HN.out]
  go_loopg [8] N (fun g vk wr => ∃ k : Nat, k + g = N ∧ vk = .int .i64 k ∧ w.heap.size < wr.heap.size ∧ Hid (QL wr w.heap.size [] 16 k ∧ Below w.heap.size w wr))
  case atStart => exact ⟨0, by omega, rfl, hz2, Q2.out, B2.out⟩
  case round =>
    obtain ⟨k, hkg, rfl, hz3, hQ⟩ := hrel
    by_cases hk : k < N
    · go_upto_block 2 with (fail)
      go_cut [] (fun wc => w.heap.size < wc.heap.size ∧ Hid (∃ l, QL wc w.heap.size l 16 k ∧ Below w.heap.size w wc))
      case first =>
        go_wp2_with fail
        go_loopg [9] 5 (fun g vi wq => ∃ i : Nat, i + g = 5 ∧ vi = .int .i64 i ∧ w.heap.size < wq.heap.size ∧ Hid (∃ l, l.length = i ∧ QL wq w.heap.size l 16 k ∧ Below w.heap.size w wq))
        case atStart => exact ⟨0, by omega, rfl, hz3, [], rfl, hQ⟩
        case round =>
          obtain ⟨i, hig, rfl, hz4, hQ'⟩ := hrel
          have d5 : i < 5 → decide ((i : Int) < 5) = true := fun h => by simp; omega
          by_cases hl : i < len
          · by_cases h5 : i < 5
            · have d5' := d5 h5
              clear d5
              obtain ⟨ba, off, rfl, hba, hc, -⟩ := HR.out i hl
              have hc2 : ∀ W : World, Below w.heap.size w W → W.cell? ⟨ba, off + i, none⟩ = some (.int .u64 (z i)) := fun W hW => by rw [hW.cell hba]; exact hc
              obtain ⟨l, hll, hQL, hB⟩ := hQ'.out
              have hc3 := hc2 _ hB
              have HQ := hide (And.intro hll (And.intro hQL hB))
              clear hc2 hll hQL hB
              go_wp2_with fail
              refine (lpush_ok ⟨z i, 0, 0, 0, k⟩ HQ.out.2.1 (by rw [HQ.out.1]; omega) rfl).mono ?_
              rintro e w4 ⟨rfl, hg4, hq4⟩
              have Q4 := hide (And.intro hq4 (below_only HQ.out.2.2 hg4 (Nat.le_of_lt hz4) (Nat.le_refl _)))
              have hz5 : w.heap.size < w4.heap.size := Nat.lt_of_lt_of_le hz4 hg4.size
              clear hg4 hq4
              simp only []
              go_wp2
              go_roundg (5 - (i + 1))
              case measure => omega
              case rel => exact ⟨i + 1, by omega, by go_num, hz5, _, by rw [List.length_append, HQ.out.1]; rfl, Q4.out⟩
            · have n5 : ¬ (i : Int) < 5 := by omega
              clear d5
              go_wp2
              go_meet
              obtain ⟨l, _, h2, h3⟩ := hQ'.out
              exact ⟨hz4, l, h2, h3⟩
          · clear d5
            go_wp2
            go_meet
            obtain ⟨l, _, h2, h3⟩ := hQ'.out
            exact ⟨hz4, l, h2, h3⟩
      case rest =>
        obtain ⟨hz4, hQ4⟩ := hcut
        obtain ⟨l, hQl, hBl⟩ := hQ4.out
        go_wp2_with fail
        refine (lsquash hQl (by omega)).mono ?_
        rintro e w4 ⟨rfl, hg4, hq4⟩
        have Q4 := hide (And.intro hq4 (below_only hBl hg4 (Nat.le_of_lt hz4) (Nat.le_refl _)))
        have hz5 : w.heap.size < w4.heap.size := Nat.lt_of_lt_of_le hz4 hg4.size
        clear hg4 hq4 hQl hBl
        simp only []
        go_wp2_with fail
        refine (llen Q4.out.1).mono ?_
        rintro e w5 ⟨rfl, rfl⟩
        simp only [List.length_nil]
        by_cases h0 : 0 < len
        · obtain ⟨ba, off, rfl, hba, hc, -⟩ := HR.out 0 h0
          have hc2 : w4.cell? ⟨ba, off, none⟩ = some (.int .u64 (z 0)) := by rw [Q4.out.2.cell hba]; exact hc
          go_wp2_with fail
          refine (lpush_form ⟨z 0, 0, 0, 0, k⟩ Q4.out.1 (by simp; omega)).mono ?_
          rintro e w6 ⟨rfl, hg6, hq6⟩
          have Q6 := hide (And.intro hq6 (below_none Q4.out.2 hg6 (Nat.le_of_lt hz5)))
          have hz6 : w.heap.size < w6.heap.size := Nat.lt_of_lt_of_le hz5 hg6.size
          clear hg6 hq6
          simp only []
          go_wp2
          go_roundg (N - (k + 1))
          case measure => omega
          case rel => exact ⟨k + 1, by omega, by go_num, hz6, Q6⟩
        · go_wp2
          go_roundg (N - (k + 1))
          case measure => omega
          case rel => exact ⟨k + 1, by omega, by go_num, hz5, Q4⟩
    · obtain rfl : k = N := by omega
      go_wp2_with fail
      refine (lpop_no hQ.out.1).mono ?_
      rintro e w4 ⟨rfl, hg4, hq4⟩
      have Q4 := hide (And.intro hq4 (below_none hQ.out.2 hg4 (Nat.le_of_lt hz3)))
      have hz5 : w.heap.size < w4.heap.size := Nat.lt_of_lt_of_le hz3 hg4.size
      clear hg4 hq4
      simp only []
      go_wp2_with fail
      refine (lepoch (Q4.out.1.alloc _)).mono ?_
      rintro e w5 ⟨rfl, rfl⟩
      simp only []
      go_wp2
      go_ret
      exact ⟨by simp, Q4.out.2.alloc (Nat.le_of_lt hz5) _⟩

set_option maxRecDepth 100000 in
set_option linter.unusedVariables false in
theorem nil_walk (w : World) (s : S) (ws : s.wf) (lo : Int) (wlo : (Lit.int .u64 lo).wf = true) (hi : Int) (whi : (Lit.int .u64 hi).wf = true) :
    Calls Try.prog 7 #[.agg #[.int .u64 s.pc, .int .u32 s.bits, .int .i64 s.fault, .int .u64 s.next, .int .i64 s.epoch], .int .u64 lo, .int .u64 hi] w fun e w' => e = .returned (.bool true) ∧ Below w.heap.size w w' := by
  go_enter Try.func7, Try.ntmps7
  go_wp2_with fail
  refine (pop_nil _).mono ?_
  rintro e w1 ⟨rfl, hg⟩
  have G1 := hide (only_past hg)
  have S1 := hide ((s.box w).grown hg (by simp))
  have hz1 : w.heap.size < w1.heap.size := Nat.lt_of_lt_of_le (by simp) hg.size
  clear hg
  simp only []
  go_wp2_with fail
  refine (peek_nil _).mono ?_
  rintro e w2 ⟨rfl, hg⟩
  have X2 := hide ((S.zero.box w1).grown hg (by simp))
  have S2 := hide ((S1.out.alloc _).grown hg (by simp))
  have G2 := hide (only_trans G1.out (only_past hg))
  have hz2 : w.heap.size < w2.heap.size := Nat.lt_of_lt_of_le hz1 (only_past hg).size
  have hz2' : w1.heap.size < w2.heap.size := X2.out.lt
  clear hg
  simp only []
  go_wp2_with fail
  refine (awake22 _).mono ?_
  rintro e w3 ⟨rfl, hg⟩
  have Y3 := hide ((S.zero.box w2).grown hg (by simp))
  have X3 := hide ((X2.out.alloc _).grown hg (by simp))
  have S3 := hide ((S2.out.alloc _).grown hg (by simp))
  have G3 := hide (only_trans G2.out (only_past hg))
  have hz3 : w.heap.size < w3.heap.size := S3.out.lt
  obtain ⟨c0, c1, c2, c3, c4⟩ := S.five S3.out
  clear hg
  simp only []
  go_wp2_with fail
  refine (push_nil s _).mono ?_
  rintro e w4 ⟨rfl, hg⟩
  have Y4 := hide (Y3.out.grown hg (by simp))
  have X4 := hide (X3.out.grown hg (by simp))
  have G4 := hide (only_trans G3.out hg)
  obtain ⟨y0, y1, y2, y3, y4⟩ := S.five Y4.out
  obtain ⟨x0, x1, x2, x3, x4⟩ := S.five X4.out
  clear hg c0 c1 c2 c3 c4
  simp only [S.zero] at y0 y1 y2 y3 y4 x0 x1 x2 x3 x4
  simp only []
  go_wp2_with fail
  refine (squash_nil _).mono ?_
  rintro e w5 ⟨rfl, rfl⟩
  simp only []
  go_wp2_with fail
  refine (epoch_nil _).mono ?_
  rintro e w5 ⟨rfl, rfl⟩
  simp only []
  go_wp2_with fail
  refine (len_nil _).mono ?_
  rintro e w5 ⟨rfl, rfl⟩
  simp only []
  go_wp2_with fail
  refine (room_nil _).mono ?_
  rintro e w5 ⟨rfl, rfl⟩
  simp only []
  go_wp2_with fail
  refine (holds_nil lo hi _).mono ?_
  rintro e w5 ⟨rfl, rfl⟩
  simp only []
  go_wp2_with fail
  go_ret
  exact ⟨rfl, below_none (Below.refl _ _) G4.out (Nat.le_refl _)⟩
end Go.Proofs.Ytkjgklpdoomjcaa

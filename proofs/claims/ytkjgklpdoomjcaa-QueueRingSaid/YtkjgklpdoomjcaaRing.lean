/- The walk of QueueRing. -/
import Derived.Test.YtkjgklpdoomjcaaQueueL
import Derived.Test.YtkjgklpdoomjcaaOpen
import Derived.Deep.DeepCutAuto
import Derived.Deep.CutBlock
import Derived.Deep.LoopGhost
namespace Go.Proofs.Ytkjgklpdoomjcaa
open Go.RowKit

/-- Slots of epoch 0 whose places are counted up from 'out', m of them. -/
def seqS (out m : Nat) : List S := (List.range' out m).map fun t : Nat => ⟨t, 0, 0, 0, 0⟩
theorem seqS_length (out m : Nat) : (seqS out m).length = m := by simp [seqS]
theorem seqS_snoc (out m : Nat) : seqS out (m + 1) = seqS out m ++ [⟨(out : Int) + m, 0, 0, 0, 0⟩] := by
  unfold seqS
  rw [List.range'_concat, List.map_append]
  simp
theorem seqS_cons (out m : Nat) : seqS out (m + 1) = ⟨out, 0, 0, 0, 0⟩ :: seqS (out + 1) m := by
  unfold seqS
  rw [List.range'_succ, List.map_cons]
theorem ring_n (n : Int) : ∃ N : Nat, 1 ≤ N ∧ N ≤ 16 ∧ wrap64 (1 + wrap64 ((IntKind.u64.wrap n).tmod 16)) = N := by
  refine ⟨1 + ((n % 18446744073709551616) % 16).toNat, by omega, by omega, ?_⟩
  rw [IntKind.wrap_u64, Int.tmod_eq_emod_of_nonneg (by omega)]
  unfold wrap64
  omega
theorem ring_k (n : Int) (N : Nat) (h1 : 1 ≤ N) (h2 : N ≤ 16) : ∃ K : Nat, K ≤ N ∧ wrap64 ((IntKind.u64.wrap n).tmod (N + 1)) = K := by
  have h : 0 ≤ (n % 18446744073709551616) % ((N : Int) + 1) := Int.emod_nonneg _ (by omega)
  have h' : (n % 18446744073709551616) % ((N : Int) + 1) < (N : Int) + 1 := Int.emod_lt_of_pos _ (by omega)
  refine ⟨((n % 18446744073709551616) % ((N : Int) + 1)).toNat, by omega, ?_⟩
  rw [IntKind.wrap_u64, Int.tmod_eq_emod_of_nonneg (by omega)]
  unfold wrap64
  omega

set_option maxRecDepth 100000 in
set_option linter.unusedVariables false in
theorem ring_walk (w : World) (n : Int) (wn : (Lit.int .i64 n).wf = true) (a : Option Addr) (len cap : Nat) (z : Nat → Int) (hlen : len ≤ 9223372036854775807) (hr : IntRow .i64 w a len z) :
    Calls Try.prog 3 #[.int .i64 n, .slice a len cap] w fun e w' => e = .returned (.bool true) ∧ Below w.heap.size w w' := by
  obtain ⟨N, N1, N2, hN⟩ := ring_n n
  have HR := hide hr
  have HN := hide hN
  clear hr hN
  go_enter Try.func3, Try.ntmps3
  go_wp2_with fail
  rw [HN.out]
  refine (lnew N _ N1 N2).mono ?_
  rintro e w1 ⟨rfl, hg, hz, hq⟩
  have B1 := hide (below_none (Below.refl w.heap.size w) hg (Nat.le_refl _))
  have Q1 := hide hq
  clear hg hq
  simp only []
  go_wp2_with fail
  refine (awake22 _).mono ?_
  rintro e w2 ⟨rfl, hg⟩
  have B2 := hide (below_none B1.out hg (Nat.le_of_lt hz))
  have hz2 : w.heap.size < w2.heap.size := Nat.lt_of_lt_of_le hz hg.size
  have Q2 := hide (Q1.out.grown hg (by simp))
  clear hg hz
  simp only []
  go_wp2_with fail
  go_loopw [7, 8, 9] (fun vin vout vi wr => ∃ i out m : Nat, i ≤ 100 ∧ m ≤ N ∧ out + m ≤ 16 * i ∧ vin = .int .u64 ((out : Int) + m) ∧ vout = .int .u64 out ∧ vi = .int .i64 i ∧ w.heap.size < wr.heap.size ∧ Hid (QL wr w.heap.size (seqS out m) N 0 ∧ Below w.heap.size w wr)) (fun _ _ i _ => 100 - (intOf i).toNat)
  case atStart => exact ⟨0, 0, 0, by omega, by omega, by omega, rfl, rfl, rfl, hz2, Q2.out, B2.out⟩
  case round =>
    obtain ⟨i, out, m, hi, hm, hom, rfl, rfl, rfl, hz3, hQ⟩ := hrel
    by_cases hlt : i < len
    · by_cases h100 : i < 100
      · obtain ⟨ba, off, rfl, hba, hc, -⟩ := HR.out i hlt
        obtain ⟨K, hK, hKe⟩ := ring_k (z i) N N1 N2
        have HK := hide hKe
        clear hKe
        have d100 : decide ((i : Int) < 100) = true := by simp; omega
        have hc2 : wr.cell? ⟨ba, off + i, none⟩ = some (.int .i64 (z i)) := by rw [hQ.out.2.cell hba]; exact hc
        go_upto_block 2 with (fail)
        rw [HK.out]
        go_cut [7] (fun vin wc => ∃ m' : Nat, m' ≤ N ∧ out + m' ≤ 16 * (i + 1) ∧ vin = .int .u64 ((out : Int) + m') ∧ w.heap.size < wc.heap.size ∧ Hid (QL wc w.heap.size (seqS out m') N 0 ∧ Below w.heap.size w wc))
        case first =>
          go_wp2_with fail
          go_loopg [7, 11] K (fun g vin vj wq => ∃ j m' : Nat, j + g = K ∧ m' ≤ N ∧ m' ≤ m + j ∧ vin = .int .u64 ((out : Int) + m') ∧ vj = .int .i64 j ∧ w.heap.size < wq.heap.size ∧ Hid (QL wq w.heap.size (seqS out m') N 0 ∧ Below w.heap.size w wq))
          case atStart => exact ⟨0, m, by omega, by omega, by omega, rfl, rfl, hz3, hQ⟩
          case round =>
            obtain ⟨j, m', hjg, hm', hmj, rfl, rfl, hz4, hQ'⟩ := hrel
            have R := lroom hQ'.out.1
            rw [seqS_length] at R
            have RR := hide R
            clear R
            by_cases hj : j < K
            · go_wp2_with fail
              refine RR.out.mono ?_
              rintro e w3 ⟨rfl, k, rfl⟩
              simp only []
              by_cases hmN : m' < N
              · go_wp2_with fail
                refine (lpush_ok ⟨(out : Int) + m', 0, 0, 0, 0⟩ (hQ'.out.1.drewN k) (by rw [seqS_length]; exact hmN) rfl).mono ?_
                rintro e w4 ⟨rfl, hg4, hq4⟩
                rw [← seqS_snoc] at hq4
                have Q4 := hide (And.intro hq4 (below_only (below_drewN hQ'.out.2 k) hg4 (Nat.le_of_lt hz4) (Nat.le_refl _)))
                have hz5 : w.heap.size < w4.heap.size := Nat.lt_of_lt_of_le hz4 hg4.size
                clear hg4 hq4
                simp only []
                go_wp2
                go_roundg (K - (j + 1))
                case measure => omega
                case rel => exact ⟨j + 1, m' + 1, by omega, by omega, by omega, by go_num, by go_num, hz5, Q4⟩
              · go_wp2
                go_meet
                exact ⟨m', hm', by omega, rfl, hz4, hQ'.out.1.drewN k, below_drewN hQ'.out.2 k⟩
            · go_wp2
              go_meet
              exact ⟨m', hm', by omega, rfl, hz4, hQ'⟩
        case rest =>
          obtain ⟨m1, hm1, hom1, rfl, hz4, hQ1⟩ := hcut
          go_upto_block 4 with (fail)
          go_cut [8] (fun vout wc => ∃ out2 m2 : Nat, m2 ≤ N ∧ out2 + m2 = out + m1 ∧ vout = .int .u64 out2 ∧ w.heap.size < wc.heap.size ∧ Hid (QL wc w.heap.size (seqS out2 m2) N 0 ∧ Below w.heap.size w wc))
          case first =>
            go_wp2_with fail
            go_loopg [8, 12] (N - K) (fun g vout vj wq => ∃ j out2 m2 : Nat, j + g = N - K ∧ m2 ≤ N ∧ Hid (out2 + m2 = out + m1) ∧ out2 + m2 ≤ 16 * (i + 1) ∧ vout = .int .u64 out2 ∧ vj = .int .i64 j ∧ w.heap.size < wq.heap.size ∧ Hid (QL wq w.heap.size (seqS out2 m2) N 0 ∧ Below w.heap.size w wq))
            case atStart => exact ⟨0, out, m1, by omega, by omega, rfl, by omega, rfl, rfl, hz4, hQ1⟩
            case round =>
              obtain ⟨j, out2, m2, hjg, hm2, hsum, hom2, rfl, rfl, hz5, hQ2⟩ := hrel
              have R := llen hQ2.out.1
              rw [seqS_length] at R
              have RR := hide R
              clear R
              by_cases hj : j < N - K
              · go_wp2_with fail
                refine RR.out.mono ?_
                rintro e w3 ⟨rfl, rfl⟩
                simp only []
                by_cases hm0 : 0 < m2
                · obtain ⟨m3, rfl⟩ : ∃ m3, m2 = m3 + 1 := ⟨m2 - 1, by omega⟩
                  rw [seqS_cons] at hQ2
                  go_wp2_with fail
                  refine (lpop_yes hQ2.out.1).mono ?_
                  rintro e w4 ⟨rfl, hg4, hq4⟩
                  have Q4 := hide (And.intro hq4 (below_only hQ2.out.2 hg4 (Nat.le_of_lt hz5) (Nat.le_refl _)))
                  have hz6 : w.heap.size < w4.heap.size := Nat.lt_of_lt_of_le hz5 hg4.size
                  have S4 := hide (show out2 + 1 + m3 = out + m1 by have := hsum.out; omega)
                  clear hg4 hq4
                  simp only []
                  go_wp2
                  go_roundg (N - K - (j + 1))
                  case measure => omega
                  case rel => exact ⟨j + 1, out2 + 1, m3, by omega, by omega, S4, by omega, by go_num, by go_num, by simp; omega, Q4.out.1.alloc _, Q4.out.2.alloc (Nat.le_of_lt hz6) _⟩
                · go_wp2
                  go_meet
                  exact ⟨out2, m2, hm2, hsum, rfl, hz5, hQ2⟩
              · go_wp2
                go_meet
                exact ⟨out2, m2, hm2, hsum, rfl, hz5, hQ2⟩
          case rest =>
            obtain ⟨out2, m2, hm2, hsum, rfl, hz5, hQ2⟩ := hcut
            have R := llen hQ2.out.1
            rw [seqS_length] at R
            have LEN := hide R
            have R2 := lroom hQ2.out.1
            rw [seqS_length] at R2
            have ROOM := hide R2
            clear R R2
            have hom2 : out2 + m2 ≤ 16 * (i + 1) := by omega
            have hs2 : ∃ inn : Int, (out : Int) + m1 = inn ∧ inn = (out2 : Int) + m2 := ⟨_, by omega, rfl⟩
            obtain ⟨inn, hs3, hs4⟩ := hs2
            rw [hs3]
            have i0 : (out2 : Int) ≤ inn := by omega
            have i1 : inn ≤ 1600 := by omega
            have i2 : inn - (out2 : Int) ≤ 16 := by omega
            have t1 : ((m2 : Int) != inn - out2) = false := bne_eq_false_iff_eq.2 (by omega)
            have t2 : ((m2 : Int) + ((N : Int) - m2) != N) = false := bne_eq_false_iff_eq.2 (by omega)
            have HS4 := hide hs4
            clear hsum hs3 hs4
            go_wp2_with fail
            refine LEN.out.mono ?_
            rintro e w3 ⟨rfl, rfl⟩
            simp only []
            go_wp2_with fail
            refine LEN.out.mono ?_
            rintro e w3 ⟨rfl, rfl⟩
            simp only []
            go_wp2_with fail
            refine ROOM.out.mono ?_
            rintro e w3 ⟨rfl, k, rfl⟩
            simp only []
            go_wp2
            go_roundw
            case rel => exact ⟨i + 1, out2, m2, by omega, hm2, by omega, by rw [HS4.out], rfl, by go_num, hz5, hQ2.out.1.drewN k, below_drewN hQ2.out.2 k⟩
            case measure => simp [intOf]; omega
      · go_wp2
        go_ret
        exact ⟨rfl, hQ.out.2⟩
    · go_wp2
      go_ret
      exact ⟨rfl, hQ.out.2⟩
end Go.Proofs.Ytkjgklpdoomjcaa

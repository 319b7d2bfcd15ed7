/- The walk of PredictCalls, and its plain law. -/
import Derived.Test.YtkjgklpdoomjcaaPredA
import Derived.Test.YtkjgklpdoomjcaaPredE
namespace Go.Proofs.Ytkjgklpdoomjcaa
open Go.RowKit

/-- What holds when i calls are open. -/
structure CI (ret : Int) (z : Nat → Int) (i : Nat) (p : P) : Prop where
  n : p.n = i
  ring : ∀ k, k < i → p.ring k = np (z k)
  tg : ∃ t, p.tg (tix ret) = ⟨true, ⟨ret, false, true, false, true, t⟩⟩

theorem ci_call (ret : Int) (z : Nat → Int) (i : Nat) (p : P) (h : CI ret z i p) (hi : i < 4) (hne : tix (z i) ≠ tix ret) : CI ret z (i + 1) (p.learn ⟨z i, true, false, false, true, ret⟩) := by
  have e : p.learn ⟨z i, true, false, false, true, ret⟩ = (p.pushed (np (z i))).aimed ⟨z i, true, false, false, true, ret⟩ := by
    unfold P.learn P.called P.popped P.cond; simp
  have e2 : (p.learn ⟨z i, true, false, false, true, ret⟩).n = (p.pushed (np (z i))).n ∧ (p.learn ⟨z i, true, false, false, true, ret⟩).ring = (p.pushed (np (z i))).ring := by
    rw [e]; unfold P.aimed; simp
  have hn := h.n
  refine ⟨?_, fun k hk => ?_, ?_⟩
  · rw [e2.1]; unfold P.pushed; simp only []; rw [if_pos (by omega), hn]
  · rw [e2.2]; unfold P.pushed; simp only []; rw [if_pos (by omega)]
    by_cases hk' : k = p.n
    · rw [if_pos hk', hk', hn]
    · rw [if_neg hk']; exact h.ring k (by omega)
  · rw [learn_tg, if_neg (fun h => hne h.2.symm)]; exact h.tg
theorem ci_ret (ret : Int) (z : Nat → Int) (i : Nat) (p : P) (x : Int) (h : CI ret z (i + 1) p) : CI ret z i (p.learn ⟨ret, false, true, false, true, x⟩) := by
  have hn := h.n
  have e2 : (p.learn ⟨ret, false, true, false, true, x⟩).n = p.n - 1 ∧ (p.learn ⟨ret, false, true, false, true, x⟩).ring = p.ring := by
    unfold P.learn P.aimed P.called P.popped P.cond
    by_cases h0 : 0 < p.n
    · simp [h0]
    · omega
  refine ⟨by rw [e2.1]; omega, fun k hk => by rw [e2.2]; exact h.ring k (by omega), ⟨x, by rw [learn_tg, if_pos ⟨rfl, rfl⟩]⟩⟩
theorem ci_guess (ret : Int) (z : Nat → Int) (i : Nat) (p : P) (h : CI ret z (i + 1) p) : p.guess ret = (true, np (z i)) := by
  obtain ⟨t, ht⟩ := h.tg
  unfold P.guess guessOf
  rw [ht, h.n]
  simp [h.ring i (by omega)]
theorem ci_start (ret : Int) (z : Nat → Int) (p q : P) (hq : q = { p.learn ⟨ret, false, true, false, true, 4⟩ with n := 0 }) : CI ret z 0 q := by
  subst hq
  exact ⟨rfl, fun k hk => by omega, ⟨4, (learn_tg p ⟨ret, false, true, false, true, 4⟩ (tix ret)).trans (if_pos ⟨rfl, rfl⟩)⟩⟩

set_option linter.unusedVariables false in
set_option maxRecDepth 100000 in
set_option maxHeartbeats 1600000 in
theorem calls_walk (w : World) (seed : Int) (ws : (Lit.int .u64 seed).wf = true) (a : Option Addr) (len cap : Nat) (z : Nat → Int) (hlen : len ≤ 9223372036854775807) (hr : IntRow .u64 w a len z) (ret : Int) (wr : (Lit.int .u64 ret).wf = true) :
    Calls Try.prog 8 #[.int .u64 seed, .slice a len cap, .int .u64 ret] w fun e w' => e = .returned (.bool true) ∧ Below w.heap.size w w' := by
  obtain ⟨s0, s1⟩ := u64_wf ws
  obtain ⟨r0, r1⟩ := u64_wf wr
  have HR := hide hr
  clear hr ws wr
  go_enter Try.func8, Try.ntmps8
  go_wp2_with fail
  refine (pnew_any seed _ s0 s1).mono ?_
  rintro e w1 ⟨rfl, hg, hz, hp⟩
  have B1 := hide (And.intro hp (below_none (Below.refl w.heap.size w) hg (Nat.le_refl _)))
  clear hg hp
  simp only []
  go_wp2_with fail
  refine (awake21 _).mono ?_
  rintro e w2 ⟨rfl, hg⟩
  have B2 := hide (show PB w w2 w.heap.size (P.new seed) from ⟨B1.out.1.grown hg (by simp), below_none B1.out.2 hg (Nat.le_of_lt hz)⟩)
  have hz2 := B2.out.1.lt
  clear hg hz
  simp only []
  go_upto_region 4 with (fail)
  go_cut [8] (fun v wc => ∃ N : Nat, N ≤ 4 ∧ N ≤ len ∧ v = .int .i64 N ∧ wc = w2)
  case first =>
    by_cases h4 : len ≤ 4
    · go_wp2_with fail
      go_meet
      exact ⟨len, h4, Nat.le_refl _, rfl, rfl⟩
    · go_wp2_with fail
      go_meet
      exact ⟨4, by omega, by omega, rfl, rfl⟩
  case rest =>
    obtain ⟨N, N4, NL, rfl, rfl⟩ := hcut
    go_wp2_with fail
    refine (Learn_any _ ⟨ret, false, true, false, true, 4⟩ _ _ B2.out.1 r0 r1).mono ?_
    rintro e w3 ⟨rfl, hg, hp⟩
    have B3 := hide (show PB w w3 w.heap.size _ from ⟨hp, below_only B2.out.2 hg (Nat.le_of_lt hz2) (Nat.le_refl _)⟩)
    have hz3 := hp.lt
    clear hg hp
    simp only []
    go_wp2_with fail
    refine (psquash_any _ _ _ B3.out.1).mono ?_
    rintro e w4 ⟨rfl, hg, hp⟩
    have C0 := hide (ci_start ret z (P.new seed) _ rfl)
    have B4 := hide (show PB w w4 w.heap.size _ from ⟨hp, below_only B3.out.2 hg (Nat.le_of_lt hz3) (Nat.le_refl _)⟩)
    generalize ({ (P.new seed).learn ⟨ret, false, true, false, true, 4⟩ with n := 0 } : P) = q4 at C0 B4
    clear hg hp B3
    simp only []
    go_wp2_with fail
    go_loopg [9] N (fun g vi wx => ∃ (i : Nat) (p : P), i + g = N ∧ vi = .int .i64 i ∧ Hid (PB w wx w.heap.size p ∧ CI ret z i p))
    case atStart => exact ⟨0, q4, by omega, rfl, B4.out, C0.out⟩
    case round =>
      obtain ⟨i, p, hig, rfl, hB⟩ := hrel
      have hz5 := hB.out.1.1.lt
      by_cases hi : i < N
      · obtain ⟨ba, off, rfl, hba, hc, hw⟩ := HR.out i (by omega)
        obtain ⟨z0, z1⟩ := u64_wf hw
        have hc2 := (keep_u64 hba hc).out _ hB.out.1.2
        have e1 := tix_bits (z i) z0 z1
        have e2 := tix_bits ret r0 r1
        clear hc hw
        by_cases ht : tix (z i) = tix ret
        · have tb : ((tix (z i) : Int) == (tix ret : Int)) = true := beq_iff_eq.2 (by omega)
          clear ht
          go_wp2_with fail
          go_ret
          exact ⟨rfl, hB.out.1.2⟩
        · have tb : ((tix (z i) : Int) == (tix ret : Int)) = false := beq_eq_false_iff_ne.2 (by omega)
          have C1 := hide (ci_call ret z i p hB.out.2 (by omega) ht)
          have L := hide (Learn_any w.heap.size ⟨z i, true, false, false, true, ret⟩ _ p hB.out.1.1 z0 z1)
          clear ht
          go_wp2_with fail
          refine L.out.mono ?_
          rintro e w5 ⟨rfl, hg, hp⟩
          have B5 := hide (And.intro (show PB w w5 w.heap.size _ from ⟨hp, below_only hB.out.1.2 hg (Nat.le_of_lt hz5) (Nat.le_refl _)⟩) C1.out)
          clear hg hp L
          simp only []
          go_wp2_with fail
          go_roundg (N - (i + 1))
          case measure => omega
          case rel => exact ⟨i + 1, _, by omega, by go_num, B5⟩
      · obtain rfl : i = N := by omega
        clear B2 B4 C0
        go_wp2_with fail
        go_loopg [10] i (fun g vi wx => ∃ (p : P), g ≤ i ∧ vi = .int .i64 ((g : Int) - 1) ∧ Hid (PB w wx w.heap.size p ∧ CI ret z g p))
        case atStart => exact ⟨p, Nat.le_refl _, rfl, hB⟩
        case round =>
          obtain ⟨p', hgi, rfl, hB'⟩ := hrel
          have hz6 := hB'.out.1.1.lt
          rcases gk with _ | m
          · go_wp2_with fail
            go_ret
            exact ⟨rfl, hB'.out.1.2⟩
          · obtain ⟨ba, off, rfl, hba, hc, hw⟩ := HR.out m (by omega)
            obtain ⟨z0, z1⟩ := u64_wf hw
            have hm : (((m + 1 : Nat) : Int) - 1) = (m : Int) := by omega
            rw [hm]
            have HC := keep_u64 hba hc
            have hc2 := HC.out _ hB'.out.1.2
            have GA := hide fun (W : World) (h : PAt W w.heap.size p') => show Calls Try.prog 28 #[.pointer (some ⟨w.heap.size, 0, none⟩), .int .u64 ret] W (GP w.heap.size W p' (true, np (z m))) from by
              have := guess_any w.heap.size ret W p' h r0 r1
              rw [ci_guess ret z m p' hB'.out.2] at this
              exact this
            have PZ := hide fun (W : World) (h1 : W.heap = wr.heap) => show PAt W w.heap.size p' from ⟨hB'.out.1.1.cells.of_block (by rw [h1]), hB'.out.1.1.hist, hB'.out.1.1.n, hB'.out.1.1.ct⟩
            have GZ := hide fun (W w5 : World) (hg : W.grownBy w5 none) (hp : PAt w5 w.heap.size p') (h1 : W.heap = wr.heap) (h2 : W.os = wr.os) (h3 : W.tape = wr.tape) (h4 : W.output = wr.output) => show PB w w5 w.heap.size p' from by
              have g : wr.grownBy w5 none := ⟨hg.os.trans h2, hg.tape.trans h3, hg.output.trans h4, by rw [← h1]; exact hg.size, fun k hk hn => by rw [← h1] at hk ⊢; exact hg.block k hk hn⟩
              exact ⟨hp, below_none hB'.out.1.2 g (Nat.le_of_lt hz6)⟩
            clear hc hw hm
            go_upto_region 16 with (fail)
            go_cut [66] (fun s wc => s = .bool false ∧ Hid (PB w wc w.heap.size p'))
            case first =>
              go_region_with (go_at_call 28; go_must (refine (GA.out _ ?_).mono ?_; exact PZ.out _ rfl; rintro e w5 ⟨rfl, hg, hp⟩; have F5 := hide (GZ.out _ _ hg hp rfl rfl rfl rfl); clear hg hp; have y0 := HC.out _ F5.out.2; simp only [np]))
              all_goals go_wp2_with fail
              all_goals go_meet
              all_goals exact ⟨by simp, F5⟩
            case rest =>
              obtain ⟨rfl, hB7⟩ := hcut
              have hz7 := hB7.out.1.lt
              have hc7 := HC.out _ hB7.out.2
              have L := hide (Learn_any w.heap.size ⟨ret, false, true, false, true, np (z m)⟩ _ p' hB7.out.1 r0 r1)
              have C1 := hide (ci_ret ret z m p' (np (z m)) hB'.out.2)
              go_wp2_with fail
              refine L.out.mono ?_
              rintro e w8 ⟨rfl, hg, hp⟩
              have B8 := hide (And.intro (show PB w w8 w.heap.size _ from ⟨hp, below_only hB7.out.2 hg (Nat.le_of_lt hz7) (Nat.le_refl _)⟩) C1.out)
              clear hg hp L
              simp only []
              go_wp2_with fail
              go_roundg m
              case measure => omega
              case rel => exact ⟨_, by omega, rfl, B8⟩
end Go.Proofs.Ytkjgklpdoomjcaa

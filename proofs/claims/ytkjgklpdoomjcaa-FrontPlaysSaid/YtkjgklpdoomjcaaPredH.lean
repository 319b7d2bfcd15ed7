/- The walks of PredictHistory, and of what the statements on the predictor begin with. -/
import Derived.Test.YtkjgklpdoomjcaaPredN
import Derived.Deep.CutBlock
namespace Go.Proofs.Ytkjgklpdoomjcaa
open Go.RowKit

theorem u64_wf {n : Int} (h : (Lit.int .u64 n).wf = true) : 0 ≤ n ∧ n < 18446744073709551616 := by
  simp [Lit.wf] at h
  have h1 : IntKind.u64.min = 0 := by decide
  have h2 : IntKind.u64.max = 18446744073709551615 := by decide
  omega

def JF (W : World) (ba off i : Nat) (j : J) : Prop :=
  W.cell? ⟨ba, off + i * 6, none⟩ = some (.int .u64 j.pc) ∧ W.cell? ⟨ba, off + i * 6 + 1, none⟩ = some (.bool j.call) ∧ W.cell? ⟨ba, off + i * 6 + 2, none⟩ = some (.bool j.ret) ∧
  W.cell? ⟨ba, off + i * 6 + 3, none⟩ = some (.bool j.cond) ∧ W.cell? ⟨ba, off + i * 6 + 4, none⟩ = some (.bool j.taken) ∧ W.cell? ⟨ba, off + i * 6 + 5, none⟩ = some (.int .u64 j.target)
theorem RowOf.jump {w : World} {a : Option Addr} {len : Nat} (hr : RowOf w a len 6 J.l J.wf) (i : Nat) (hi : i < len) :
    ∃ ba off j, a = some ⟨ba, off, none⟩ ∧ ba < w.heap.size ∧ 0 ≤ j.pc ∧ j.pc < 18446744073709551616 ∧ Hid (∀ W, Below w.heap.size w W → JF W ba off i j) := by
  obtain ⟨ba, off, j, ha, hb, hw, hc⟩ := hr i hi
  obtain ⟨h0, h1⟩ := u64_wf hw.1
  have g : ∀ W, Below w.heap.size w W → ∀ k, k < 6 → W.cell? ⟨ba, off + i * 6 + k, none⟩ = j.l[k]? := fun W h k hk => (h.cell (p := ⟨ba, off + i * 6 + k, none⟩) hb).trans (hc k hk)
  exact ⟨ba, off, j, ha, hb, h0, h1, fun W h => ⟨g W h 0 (by omega), g W h 1 (by omega), g W h 2 (by omega), g W h 3 (by omega), g W h 4 (by omega), g W h 5 (by omega)⟩⟩

theorem learn_hist (p : P) (j : J) : (p.learn j).hist = if j.cond = true then (2 * p.hist + if j.taken then 1 else 0) % 64 else p.hist := by
  have h1 : ∀ q : P, (q.aimed j).hist = q.hist := fun q => by unfold P.aimed; split <;> rfl
  have h2 : ∀ q : P, (q.called j).hist = q.hist := fun q => by unfold P.called; split <;> rfl
  have h3 : ∀ q : P, (q.popped j).hist = q.hist := fun q => by unfold P.popped; split <;> rfl
  unfold P.learn
  rw [h1, h2, h3]
  unfold P.cond
  split <;> rfl

theorem awake_guess : ((P.new 0).learn ⟨8, false, false, false, true, 100⟩).guess 8 = (true, 100) := by
  unfold P.learn P.aimed P.called P.popped P.cond P.guess guessOf
  simp

set_option maxRecDepth 100000 in
theorem awake21 (w : World) : Calls Try.prog 26 #[] w fun e w' => e = .returned (.bool true) ∧ w.grownBy w' none := by
  go_enter Try.func26, Try.ntmps26
  go_wp2_with fail
  refine (pnew_any 0 _ (by omega) (by omega)).mono ?_
  rintro e w1 ⟨rfl, hg, hz, hp⟩
  have G1 := hide hg
  have P1 := hide hp
  clear hg hp
  simp only []
  go_wp2_with fail
  refine (Learn_any _ ⟨8, false, false, false, true, 100⟩ _ _ P1.out (by decide) (by decide)).mono ?_
  rintro e w2 ⟨rfl, hg, hp⟩
  have G2 := hide hg
  have P2 := hide hp
  have hz2 : w.heap.size < w2.heap.size := P2.out.lt
  clear hg hp
  simp only []
  go_wp2_with fail
  have L := guess_any w.heap.size 8 _ _ P2.out (by decide) (by decide)
  rw [awake_guess] at L
  refine L.mono ?_
  rintro e w3 ⟨rfl, hg, hp⟩
  have G3 := hide hg
  clear hg hp L
  simp only []
  go_wp2
  go_ret
  refine ⟨rfl, ?_⟩
  have g12 : w.grownBy w3 (some w.heap.size) := only_trans (only_trans (only_mono G1.out) G2.out) (only_mono G3.out)
  exact ⟨g12.os, g12.tape, g12.output, g12.size, fun k hk _ => g12.block k hk (by simp; omega)⟩

/-- Below, and the predictor: what a round hands on. -/
def PB (w wr : World) (b : Nat) (p : P) : Prop := PAt wr b p ∧ Below w.heap.size w wr

set_option linter.unusedVariables false in
set_option maxRecDepth 100000 in
theorem history_walk (w : World) (seed : Int) (ws : (Lit.int .u64 seed).wf = true) (a : Option Addr) (len cap : Nat) (hlen : len ≤ 9223372036854775807) (hr : RowOf w a len 6 J.l J.wf) :
    Calls Try.prog 10 #[.int .u64 seed, .slice a len cap] w fun e w' => e = .returned (.bool true) ∧ Below w.heap.size w w' := by
  obtain ⟨s0, s1⟩ := u64_wf ws
  have HR := hide hr
  clear hr ws
  go_enter Try.func10, Try.ntmps10
  go_wp2_with fail
  refine (pnew_any seed _ s0 s1).mono ?_
  rintro e w1 ⟨rfl, hg, hz, hp⟩
  have B1 := hide (And.intro hp (below_none (Below.refl w.heap.size w) hg (Nat.le_refl _)))
  clear hg hp
  simp only []
  go_wp2_with fail
  refine (awake21 _).mono ?_
  rintro e w2 ⟨rfl, hg⟩
  have B2 := hide (show PB w w2 w.heap.size (P.new seed) from ⟨B1.out.1.grown hg (by simp), below_none B1.out.2 hg (Nat.le_of_lt hz)⟩)
  clear hg hz
  simp only []
  go_wp2_with fail
  go_loopg [6, 7] 100 (fun g vh vi wr => ∃ (i : Nat) (p : P), i + g = 100 ∧ vh = .int .i64 p.hist ∧ vi = .int .i64 i ∧ Hid (PB w wr w.heap.size p))
  case atStart => exact ⟨0, P.new seed, by omega, rfl, rfl, B2⟩
  case round =>
    obtain ⟨i, p, hig, rfl, rfl, hB⟩ := hrel
    have hz3 := hB.out.1.lt
    by_cases hl : i < len
    · by_cases h5 : i < 100
      · obtain ⟨ba, off, j, rfl, hba, j0, j1, HJ⟩ := HR.out.jump i hl
        obtain ⟨c0, c1, c2, c3, c4, c5⟩ := HJ.out _ hB.out.2
        have L := Learn_any w.heap.size j wr p hB.out.1 j0 j1
        have LL := hide L
        have hh := hB.out.1.hist
        clear L
        go_wp2_with fail
        refine LL.out.mono ?_
        rintro e w3 ⟨rfl, hg, hp⟩
        have hB3 := hide (show PB w w3 w.heap.size (p.learn j) from ⟨hp, below_only hB.out.2 hg (Nat.le_of_lt hz3) (Nat.le_refl _)⟩)
        have hz4 := hp.lt
        clear hg hp c0 c1 c2 c3 c4 c5
        obtain ⟨c0, c1, c2, c3, c4, c5⟩ := HJ.out _ hB3.out.2
        have HH := hide (learn_hist p j)
        simp only []
        cases hc : j.cond
        · have E := hide (show (p.learn j).hist = p.hist by rw [HH.out, hc]; rfl)
          rw [hc] at c3
          clear hc
          go_wp2_with fail
          refine (history_any _ _ _ hB3.out.1).mono ?_
          rintro e w4 ⟨rfl, rfl⟩
          rw [E.out]
          simp only []
          go_wp2
          go_roundg (100 - (i + 1))
          case measure => omega
          case rel => exact ⟨i + 1, p.learn j, by omega, by rw [E.out], by go_num, hB3⟩
        · rw [hc] at c3
          cases ht : j.taken
          · have E := hide (show (p.learn j).hist = 2 * p.hist % 64 by rw [HH.out, hc, ht]; rfl)
            rw [ht] at c4
            clear hc ht
            go_wp2_with fail
            refine (history_any _ _ _ hB3.out.1).mono ?_
            rintro e w4 ⟨rfl, rfl⟩
            have t : (((p.learn j).hist : Int) != (p.hist : Int) * 2 % 64) = false := bne_eq_false_iff_eq.2 (by rw [E.out]; omega)
            simp only []
            go_wp2
            go_roundg (100 - (i + 1))
            case measure => omega
            case rel => exact ⟨i + 1, p.learn j, by omega, by rw [E.out]; congr 1; omega, by go_num, hB3⟩
          · have E := hide (show (p.learn j).hist = (2 * p.hist + 1) % 64 by rw [HH.out, hc, ht]; rfl)
            rw [ht] at c4
            clear hc ht
            go_wp2_with fail
            refine (history_any _ _ _ hB3.out.1).mono ?_
            rintro e w4 ⟨rfl, rfl⟩
            have t : (((p.learn j).hist : Int) != (p.hist : Int) * 2 % 64 + 1) = false := bne_eq_false_iff_eq.2 (by rw [E.out]; omega)
            simp only []
            go_wp2
            go_roundg (100 - (i + 1))
            case measure => omega
            case rel => exact ⟨i + 1, p.learn j, by omega, by rw [E.out]; congr 1; omega, by go_num, hB3⟩
      · go_wp2
        go_ret
        exact ⟨rfl, hB.out.2⟩
    · go_wp2
      go_ret
      exact ⟨rfl, hB.out.2⟩
end Go.Proofs.Ytkjgklpdoomjcaa

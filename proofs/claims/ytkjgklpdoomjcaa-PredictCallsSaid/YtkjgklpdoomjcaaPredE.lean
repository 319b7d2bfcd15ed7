/- The walk of PredictLearns, and its plain law: what twelve jumps of one kind leave. -/
import Derived.Test.YtkjgklpdoomjcaaPredH
import Derived.Deep.RegionWith
import Derived.Deep.RegionHeld3
import Derived.Deep.DeepCutAuto
import Derived.Deep.CutBlock
import Derived.Deep.RegionHeld3
import Derived.Deep.DeepCutAuto
import Derived.Deep.CutBlock
import Derived.Deep.RegionHeld3
import Derived.Deep.DeepCutAuto
import Derived.Deep.CutBlock
import Derived.Deep.RegionHeld3
import Derived.Deep.DeepCutAuto
import Derived.Deep.CutBlock
import Derived.Deep.RegionHeld3
import Derived.Deep.DeepCutAuto
import Derived.Deep.CutBlock
import Derived.Deep.RegionHeld3
import Derived.Deep.DeepCutAuto
import Derived.Deep.CutBlock
import Derived.Deep.RegionHeld3
import Derived.Deep.DeepCutAuto
import Derived.Deep.CutBlock
import Derived.Deep.RegionHeld3
import Derived.Deep.DeepCutAuto
import Derived.Deep.CutBlock
namespace Go.Proofs.Ytkjgklpdoomjcaa
open Go.RowKit

/-! ### The plain law -/
def hs (t : Bool) (h : Nat) : Nat → Nat
  | 0 => h
  | k + 1 => (2 * hs t h k + if t then 1 else 0) % 64
theorem hs_six (t : Bool) : ∀ h, h < 64 → hs t h 6 = if t then 63 else 0 := by cases t <;> decide

/-- What holds when k of the twelve have been learned. -/
structure Inv (pc target : Int) (cond t : Bool) (k : Nat) (p : P) : Prop where
  tg : ∃ tk, p.tg (tix pc) = ⟨true, ⟨pc, false, false, cond, tk, target⟩⟩
  early : cond = true → k ≤ 6 → ∃ h, h < 64 ∧ p.hist = hs t h k
  late : cond = true → 6 ≤ k → p.hist = (if t then 63 else 0) ∧ (if t then min 3 (k - 6) ≤ p.ct (cix pc 63) else p.ct (cix pc 0) ≤ 3 - (k - 6))

theorem learn_tg (p : P) (j : J) (i : Nat) : (p.learn j).tg i = if j.taken = true ∧ i = tix j.pc then ⟨true, j⟩ else p.tg i := by
  have h2 : ∀ q : P, (q.called j).tg = q.tg := fun q => by unfold P.called; split <;> rfl
  have h3 : ∀ q : P, (q.popped j).tg = q.tg := fun q => by unfold P.popped; split <;> rfl
  have h4 : ∀ q : P, (q.cond j).tg = q.tg := fun q => by unfold P.cond; split <;> rfl
  unfold P.learn P.aimed
  by_cases ht : j.taken = true
  · rw [if_pos ht]
    show (if i = tix j.pc then _ else ((((p.cond j).popped j).called j).tg i)) = _
    rw [h2, h3, h4]
    by_cases hi : i = tix j.pc
    · rw [if_pos hi, if_pos ⟨ht, hi⟩]
    · rw [if_neg hi, if_neg (fun h => hi h.2)]
  · rw [if_neg ht, if_neg (fun h => ht h.1), h2, h3, h4]
theorem learn_ct (p : P) (j : J) (i : Nat) : (p.learn j).ct i = if j.cond = true ∧ i = cix j.pc p.hist then (if j.taken then min 3 (p.ct i + 1) else p.ct i - 1) else p.ct i := by
  have h1 : ∀ q : P, (q.aimed j).ct = q.ct := fun q => by unfold P.aimed; split <;> rfl
  have h2 : ∀ q : P, (q.called j).ct = q.ct := fun q => by unfold P.called; split <;> rfl
  have h3 : ∀ q : P, (q.popped j).ct = q.ct := fun q => by unfold P.popped; split <;> rfl
  unfold P.learn
  rw [h1, h2, h3]
  unfold P.cond
  by_cases hc : j.cond = true
  · rw [if_pos hc]
    unfold P.learned
    simp only []
    by_cases hi : i = cix j.pc p.hist
    · subst hi
      simp [hc]
    · rw [if_neg hi, if_neg (fun h => hi h.2)]
  · rw [if_neg hc, if_neg (fun h => hc h.1)]

theorem inv_start (pc target : Int) (cond t : Bool) (p : P) (hp : p.hist < 64) : Inv pc target cond t 0 (p.learn ⟨pc, false, false, cond, true, target⟩) := by
  refine ⟨⟨true, by rw [learn_tg, if_pos ⟨rfl, rfl⟩]⟩, fun _ _ => ⟨_, ?_, rfl⟩, fun _ h => by omega⟩
  rw [learn_hist]
  cases cond
  · exact hp
  · exact Nat.mod_lt _ (by omega)
theorem inv_step (pc target : Int) (cond taken : Bool) (k : Nat) (p : P) (hct : ∀ i, p.ct i ≤ 3) (h : Inv pc target cond taken k p) :
    Inv pc target cond taken (k + 1) (p.learn ⟨pc, false, false, cond, taken || !cond, target⟩) := by
  refine ⟨?_, fun hc hk => ?_, fun hc hk => ?_⟩
  · rw [learn_tg]
    split
    · exact ⟨_, rfl⟩
    · exact h.tg
  · subst hc
    obtain ⟨h0, hlt, e⟩ := h.early rfl (by omega)
    refine ⟨h0, hlt, ?_⟩
    rw [learn_hist, if_pos rfl, e]
    cases taken <;> rfl
  · subst hc
    have hist6 : p.hist = (if taken then 63 else 0) ∨ k = 5 := by
      by_cases hk6 : 6 ≤ k
      · exact .inl (h.late rfl hk6).1
      · exact .inr (by omega)
    by_cases hk5 : k = 5
    · subst hk5
      obtain ⟨h0, hlt, e⟩ := h.early rfl (by omega)
      have e6 : (p.learn ⟨pc, false, false, true, taken || !true, target⟩).hist = hs taken h0 6 := by
        rw [learn_hist, if_pos rfl, e]
        cases taken <;> rfl
      refine ⟨by rw [e6]; exact hs_six taken h0 hlt, ?_⟩
      cases taken
      · show (p.learn _).ct (cix pc 0) ≤ 3 - 0
        have := hct (cix pc 0)
        rw [learn_ct]
        split
        · simp; omega
        · omega
      · exact Nat.zero_le _
    · have hl := h.late rfl (by omega)
      rw [learn_hist, if_pos rfl, hl.1]
      refine ⟨by cases taken <;> simp, ?_⟩
      have h2 := hl.2
      cases taken
      · simp only [Bool.false_eq_true, ↓reduceIte] at h2 hl ⊢
        rw [learn_ct, if_pos ⟨rfl, by rw [hl.1]⟩]
        simp
        omega
      · simp only [↓reduceIte] at h2 hl ⊢
        rw [learn_ct, if_pos ⟨rfl, by rw [hl.1]⟩]
        simp
        omega

theorem inv_end (pc target : Int) (cond taken : Bool) (p : P) (h : Inv pc target cond taken 12 p) : p.guess pc = if cond = true ∧ taken = false then (false, np pc) else (true, target) := by
  obtain ⟨tk, htg⟩ := h.tg
  unfold P.guess guessOf
  rw [htg]
  cases cond
  · simp
  · have hl := h.late rfl (by omega)
    cases taken
    · simp only [Bool.false_eq_true, ↓reduceIte] at hl
      have : p.ct (cix pc p.hist) < 2 := by rw [hl.1]; omega
      simp [this]
    · simp only [↓reduceIte] at hl
      have : ¬ p.ct (cix pc p.hist) < 2 := by rw [hl.1]; omega
      simp [this]

theorem keep_u64 {w : World} {ba off : Nat} {x : Int} {i : Nat} (hb : ba < w.heap.size) (hc : w.cell? ⟨ba, off + i, none⟩ = some (.int .u64 x)) : Hid (∀ W, Below w.heap.size w W → W.cell? ⟨ba, off + i, none⟩ = some (.int .u64 x)) :=
  fun _ h => (h.cell (p := ⟨ba, off + i, none⟩) hb).trans hc

/-- A variable that holds a guess. -/
def gc (g : Bool × Int) : Nat → Value
  | 0 => .bool g.1
  | _ => .int .u64 g.2
theorem gbox (g : Bool × Int) (w : World) : CellsAt (w.alloc (.cells #[.bool g.1, .int .u64 g.2] 46)) w.heap.size 2 (gc g) :=
  CellsAt.new w _ 46 2 (gc g) (by omega) fun o ho => by
    rcases (by omega : o = 0 ∨ o = 1) with rfl | rfl <;> rfl
theorem gtwo {g : Bool × Int} {w : World} {b : Nat} (h : CellsAt w b 2 (gc g)) : w.cell? ⟨b, 0, none⟩ = some (.bool g.1) ∧ w.cell? ⟨b, 1, none⟩ = some (.int .u64 g.2) := ⟨h.cell 0 (by omega), h.cell 1 (by omega)⟩

set_option linter.unusedVariables false in
set_option maxRecDepth 100000 in
set_option maxHeartbeats 1600000 in
theorem learns_ff (w : World) (seed : Int) (ws : (Lit.int .u64 seed).wf = true) (pc : Int) (wpc : (Lit.int .u64 pc).wf = true) (target : Int) (wt : (Lit.int .u64 target).wf = true)
    (a : Option Addr) (len cap : Nat) (z : Nat → Int) (hlen : len ≤ 9223372036854775807) (hr : IntRow .u64 w a len z) :
    Calls Try.prog 5 #[.int .u64 seed, .int .u64 pc, .int .u64 target, .bool false, .bool false, .slice a len cap] w fun e w' => e = .returned (.bool true) ∧ Below w.heap.size w w' := by
  obtain ⟨s0, s1⟩ := u64_wf ws
  obtain ⟨p0, p1⟩ := u64_wf wpc
  have HR := hide hr
  clear hr ws wpc wt
  go_enter Try.func5, Try.ntmps5
  go_wp2_with fail
  refine (pnew_any seed _ s0 s1).mono ?_
  rintro e w1 ⟨rfl, hg, hz, hp⟩
  have B1 := hide (And.intro hp (below_none (Below.refl w.heap.size w) hg (Nat.le_refl _)))
  clear hg hp
  simp only []
  go_wp2_with fail
  refine (awake21 _).mono ?_
  rintro e w2 ⟨rfl, hg⟩
  have B2 := hide (show PB w w2 w.heap.size (P.new seed) from ⟨B1.out.1.grown hg (by simp), below_none B1.out.2 hg (Nat.le_of_lt hz)⟩)
  have hz2 := B2.out.1.lt
  clear hg hz
  simp only []
  go_wp2_with fail
  refine (Learn_any _ ⟨pc, false, false, false, true, target⟩ _ _ B2.out.1 p0 p1).mono ?_
  rintro e w3 ⟨rfl, hg, hp⟩
  have I3 := hide (inv_start pc target false false _ B2.out.1.hist)
  have B3 := hide (show PB w w3 w.heap.size _ from ⟨hp, below_only B2.out.2 hg (Nat.le_of_lt hz2) (Nat.le_refl _)⟩)
  generalize (P.new seed).learn ⟨pc, false, false, false, true, target⟩ = q3 at I3 B3
  clear hg hp
  simp only []
  go_wp2_with fail
  go_loopg [14] 12 (fun g vi wr => ∃ (i : Nat) (p : P), i + g = 12 ∧ vi = .int .i64 i ∧ Hid (PB w wr w.heap.size p ∧ Inv pc target false false i p))
  case atStart => exact ⟨0, q3, by omega, rfl, B3.out, I3.out⟩
  case round =>
    obtain ⟨i, p, hig, rfl, hB⟩ := hrel
    have hz3 := hB.out.1.1.lt
    by_cases h12 : i < 12
    · have LL := hide (Learn_any w.heap.size ⟨pc, false, false, false, true, target⟩ wr p hB.out.1.1 p0 p1)
      have IS := hide (show Inv pc target false false (i + 1) (p.learn ⟨pc, false, false, false, true, target⟩) from inv_step pc target false false i p hB.out.1.1.ct hB.out.2)
      go_wp2_with fail
      refine LL.out.mono ?_
      rintro e w4 ⟨rfl, hg, hp⟩
      have B4 := hide (And.intro (show PB w w4 w.heap.size _ from ⟨hp, below_only hB.out.1.2 hg (Nat.le_of_lt hz3) (Nat.le_refl _)⟩) IS.out)
      clear hg hp
      simp only []
      go_wp2_with fail
      go_roundg (12 - (i + 1))
      case measure => omega
      case rel => exact ⟨i + 1, _, by omega, by go_num, B4⟩
    · obtain rfl : i = 12 := by omega
      have GU := guess_any w.heap.size pc wr p hB.out.1.1 p0 p1
      have EG := hide (show p.guess pc = (true, target) from by have := inv_end pc target false false p hB.out.2; simpa using this)
      rw [EG.out] at GU
      have GG := hide GU
      have GA := hide fun (W : World) (h : PAt W w.heap.size p) => show Calls Try.prog 28 #[.pointer (some ⟨w.heap.size, 0, none⟩), .int .u64 pc] W (GP w.heap.size W p (true, target)) from by
        have := guess_any w.heap.size pc W p h p0 p1
        rw [EG.out] at this
        exact this
      have B3' := hide hB.out.1
      clear GU hB EG B3 B2 B1 I3
      go_wp2_with fail
      refine GG.out.mono ?_
      rintro e w4 ⟨rfl, hg, hp⟩
      have B4 := hide (show PB w w4 w.heap.size p from ⟨hp, below_none B3'.out.2 hg (Nat.le_of_lt hz3)⟩)
      have hz4 := hp.lt
      clear hg hp
      simp only []
      have X4 := hide (show CellsAt (w4.alloc (.cells #[.bool true, .int .u64 (target)] 46)) w4.heap.size 2 (gc (true, target)) from gbox (true, target) w4)
      go_upto_block 2 with (fail)
      go_cut [] (fun wc => Hid (PB w wc w.heap.size p ∧ CellsAt wc w4.heap.size 2 (gc (true, target))))
      case first =>
        go_wp2_with fail
        go_loopg [16] 50 (fun g vi wq => ∃ (i : Nat), i + g = 50 ∧ vi = .int .i64 i ∧ Hid (PB w wq w.heap.size p ∧ CellsAt wq w4.heap.size 2 (gc (true, target))))
        case atStart => exact ⟨0, by omega, rfl, ⟨B4.out.1.alloc _, B4.out.2.alloc (Nat.le_of_lt hz4) _⟩, X4.out⟩
        case round =>
          obtain ⟨i, hig, rfl, hB⟩ := hrel
          by_cases hl : i < len
          · by_cases h50 : i < 50
            · have d50 : decide ((i : Int) < 50) = true := by simp; omega
              obtain ⟨ba, off, rfl, hba, hc, hw⟩ := HR.out i hl
              obtain ⟨g0, g1⟩ := u64_wf hw
              have hc2 := (keep_u64 hba hc).out _ hB.out.1.2
              have GZ := hide (guess_any w.heap.size (z i) _ p hB.out.1.1 g0 g1)
              clear hc hw
              go_wp2_with fail
              refine GZ.out.mono ?_
              rintro e w5 ⟨rfl, hg, hp⟩
              have B5 := hide (And.intro (show PB w w5 w.heap.size p from ⟨hp, below_none hB.out.1.2 hg (Nat.le_of_lt hB.out.1.1.lt)⟩) (hB.out.2.grown hg (by simp)))
              clear hg hp
              simp only []
              go_wp2_with fail
              go_roundg (50 - (i + 1))
              case measure => omega
              case rel => exact ⟨i + 1, by omega, by go_num, B5⟩
            · go_wp2_with fail
              go_meet
              exact hB
          · go_wp2_with fail
            go_meet
            exact hB
      case rest =>
        obtain ⟨x0, x1⟩ := gtwo hcut.out.2
        dsimp only at x0 x1
        have hx := hcut.out.2.lt
        have hzc := hcut.out.1.1.lt
        have X5 := hide (hcut.out.2.alloc (.cells #[.bool true, .int .u64 (target)] 46))
        have P5 := hide (hcut.out.1.1.alloc (.cells #[.bool true, .int .u64 (target)] 46))
        have B5 := hide (hcut.out.1.2.alloc (Nat.le_of_lt hzc) (.cells #[.bool true, .int .u64 (target)] 46))
        have hz5 : w.heap.size ≤ (wc.alloc (.cells #[.bool true, .int .u64 (target)] 46)).heap.size := by simp; omega
        go_wp2_with fail
        have PZ := hide fun (W : World) (h1 : W.heap = (wc.alloc (.cells #[.bool true, .int .u64 (target)] 46)).heap) => show PAt W w.heap.size p from ⟨P5.out.cells.of_block (by rw [h1]), P5.out.hist, P5.out.n, P5.out.ct⟩
        have GZ := hide fun (W w5 : World) (hg : W.grownBy w5 none) (h1 : W.heap = (wc.alloc (.cells #[.bool true, .int .u64 (target)] 46)).heap) (h2 : W.os = wc.os) (h3 : W.tape = wc.tape) (h4 : W.output = wc.output) => show CellsAt w5 w4.heap.size 2 (gc (true, target)) ∧ Below w.heap.size w w5 from by
          have g : (wc.alloc (.cells #[.bool true, .int .u64 (target)] 46)).grownBy w5 none := ⟨hg.os.trans h2, hg.tape.trans h3, hg.output.trans h4, by rw [← h1]; exact hg.size, fun k hk hn => by rw [← h1] at hk ⊢; exact hg.block k hk hn⟩
          exact ⟨X5.out.grown g (by simp), below_none B5.out g hz5⟩
        go_region_with (go_at_call 28; (refine (GA.out _ ?_).mono ?_; exact PZ.out _ rfl; rintro e w5 ⟨rfl, hg, hp⟩; have F5 := hide (GZ.out _ _ hg rfl rfl rfl rfl); clear hg hp; obtain ⟨y0, y1⟩ := gtwo F5.out.1; dsimp only at y0 y1))
        all_goals go_wp2_with fail
        all_goals go_ret
        all_goals exact ⟨rfl, F5.out.2⟩

set_option linter.unusedVariables false in
set_option maxRecDepth 100000 in
set_option maxHeartbeats 1600000 in
theorem learns_ft (w : World) (seed : Int) (ws : (Lit.int .u64 seed).wf = true) (pc : Int) (wpc : (Lit.int .u64 pc).wf = true) (target : Int) (wt : (Lit.int .u64 target).wf = true)
    (a : Option Addr) (len cap : Nat) (z : Nat → Int) (hlen : len ≤ 9223372036854775807) (hr : IntRow .u64 w a len z) :
    Calls Try.prog 5 #[.int .u64 seed, .int .u64 pc, .int .u64 target, .bool false, .bool true, .slice a len cap] w fun e w' => e = .returned (.bool true) ∧ Below w.heap.size w w' := by
  obtain ⟨s0, s1⟩ := u64_wf ws
  obtain ⟨p0, p1⟩ := u64_wf wpc
  have HR := hide hr
  clear hr ws wpc wt
  go_enter Try.func5, Try.ntmps5
  go_wp2_with fail
  refine (pnew_any seed _ s0 s1).mono ?_
  rintro e w1 ⟨rfl, hg, hz, hp⟩
  have B1 := hide (And.intro hp (below_none (Below.refl w.heap.size w) hg (Nat.le_refl _)))
  clear hg hp
  simp only []
  go_wp2_with fail
  refine (awake21 _).mono ?_
  rintro e w2 ⟨rfl, hg⟩
  have B2 := hide (show PB w w2 w.heap.size (P.new seed) from ⟨B1.out.1.grown hg (by simp), below_none B1.out.2 hg (Nat.le_of_lt hz)⟩)
  have hz2 := B2.out.1.lt
  clear hg hz
  simp only []
  go_wp2_with fail
  refine (Learn_any _ ⟨pc, false, false, false, true, target⟩ _ _ B2.out.1 p0 p1).mono ?_
  rintro e w3 ⟨rfl, hg, hp⟩
  have I3 := hide (inv_start pc target false true _ B2.out.1.hist)
  have B3 := hide (show PB w w3 w.heap.size _ from ⟨hp, below_only B2.out.2 hg (Nat.le_of_lt hz2) (Nat.le_refl _)⟩)
  generalize (P.new seed).learn ⟨pc, false, false, false, true, target⟩ = q3 at I3 B3
  clear hg hp
  simp only []
  go_wp2_with fail
  go_loopg [14] 12 (fun g vi wr => ∃ (i : Nat) (p : P), i + g = 12 ∧ vi = .int .i64 i ∧ Hid (PB w wr w.heap.size p ∧ Inv pc target false true i p))
  case atStart => exact ⟨0, q3, by omega, rfl, B3.out, I3.out⟩
  case round =>
    obtain ⟨i, p, hig, rfl, hB⟩ := hrel
    have hz3 := hB.out.1.1.lt
    by_cases h12 : i < 12
    · have LL := hide (Learn_any w.heap.size ⟨pc, false, false, false, true, target⟩ wr p hB.out.1.1 p0 p1)
      have IS := hide (show Inv pc target false true (i + 1) (p.learn ⟨pc, false, false, false, true, target⟩) from inv_step pc target false true i p hB.out.1.1.ct hB.out.2)
      go_wp2_with fail
      refine LL.out.mono ?_
      rintro e w4 ⟨rfl, hg, hp⟩
      have B4 := hide (And.intro (show PB w w4 w.heap.size _ from ⟨hp, below_only hB.out.1.2 hg (Nat.le_of_lt hz3) (Nat.le_refl _)⟩) IS.out)
      clear hg hp
      simp only []
      go_wp2_with fail
      go_roundg (12 - (i + 1))
      case measure => omega
      case rel => exact ⟨i + 1, _, by omega, by go_num, B4⟩
    · obtain rfl : i = 12 := by omega
      have GU := guess_any w.heap.size pc wr p hB.out.1.1 p0 p1
      have EG := hide (show p.guess pc = (true, target) from by have := inv_end pc target false true p hB.out.2; simpa using this)
      rw [EG.out] at GU
      have GG := hide GU
      have GA := hide fun (W : World) (h : PAt W w.heap.size p) => show Calls Try.prog 28 #[.pointer (some ⟨w.heap.size, 0, none⟩), .int .u64 pc] W (GP w.heap.size W p (true, target)) from by
        have := guess_any w.heap.size pc W p h p0 p1
        rw [EG.out] at this
        exact this
      have B3' := hide hB.out.1
      clear GU hB EG B3 B2 B1 I3
      go_wp2_with fail
      refine GG.out.mono ?_
      rintro e w4 ⟨rfl, hg, hp⟩
      have B4 := hide (show PB w w4 w.heap.size p from ⟨hp, below_none B3'.out.2 hg (Nat.le_of_lt hz3)⟩)
      have hz4 := hp.lt
      clear hg hp
      simp only []
      have X4 := hide (show CellsAt (w4.alloc (.cells #[.bool true, .int .u64 (target)] 46)) w4.heap.size 2 (gc (true, target)) from gbox (true, target) w4)
      go_upto_block 2 with (fail)
      go_cut [] (fun wc => Hid (PB w wc w.heap.size p ∧ CellsAt wc w4.heap.size 2 (gc (true, target))))
      case first =>
        go_wp2_with fail
        go_loopg [16] 50 (fun g vi wq => ∃ (i : Nat), i + g = 50 ∧ vi = .int .i64 i ∧ Hid (PB w wq w.heap.size p ∧ CellsAt wq w4.heap.size 2 (gc (true, target))))
        case atStart => exact ⟨0, by omega, rfl, ⟨B4.out.1.alloc _, B4.out.2.alloc (Nat.le_of_lt hz4) _⟩, X4.out⟩
        case round =>
          obtain ⟨i, hig, rfl, hB⟩ := hrel
          by_cases hl : i < len
          · by_cases h50 : i < 50
            · have d50 : decide ((i : Int) < 50) = true := by simp; omega
              obtain ⟨ba, off, rfl, hba, hc, hw⟩ := HR.out i hl
              obtain ⟨g0, g1⟩ := u64_wf hw
              have hc2 := (keep_u64 hba hc).out _ hB.out.1.2
              have GZ := hide (guess_any w.heap.size (z i) _ p hB.out.1.1 g0 g1)
              clear hc hw
              go_wp2_with fail
              refine GZ.out.mono ?_
              rintro e w5 ⟨rfl, hg, hp⟩
              have B5 := hide (And.intro (show PB w w5 w.heap.size p from ⟨hp, below_none hB.out.1.2 hg (Nat.le_of_lt hB.out.1.1.lt)⟩) (hB.out.2.grown hg (by simp)))
              clear hg hp
              simp only []
              go_wp2_with fail
              go_roundg (50 - (i + 1))
              case measure => omega
              case rel => exact ⟨i + 1, by omega, by go_num, B5⟩
            · go_wp2_with fail
              go_meet
              exact hB
          · go_wp2_with fail
            go_meet
            exact hB
      case rest =>
        obtain ⟨x0, x1⟩ := gtwo hcut.out.2
        dsimp only at x0 x1
        have hx := hcut.out.2.lt
        have hzc := hcut.out.1.1.lt
        have X5 := hide (hcut.out.2.alloc (.cells #[.bool true, .int .u64 (target)] 46))
        have P5 := hide (hcut.out.1.1.alloc (.cells #[.bool true, .int .u64 (target)] 46))
        have B5 := hide (hcut.out.1.2.alloc (Nat.le_of_lt hzc) (.cells #[.bool true, .int .u64 (target)] 46))
        have hz5 : w.heap.size ≤ (wc.alloc (.cells #[.bool true, .int .u64 (target)] 46)).heap.size := by simp; omega
        go_wp2_with fail
        have PZ := hide fun (W : World) (h1 : W.heap = (wc.alloc (.cells #[.bool true, .int .u64 (target)] 46)).heap) => show PAt W w.heap.size p from ⟨P5.out.cells.of_block (by rw [h1]), P5.out.hist, P5.out.n, P5.out.ct⟩
        have GZ := hide fun (W w5 : World) (hg : W.grownBy w5 none) (h1 : W.heap = (wc.alloc (.cells #[.bool true, .int .u64 (target)] 46)).heap) (h2 : W.os = wc.os) (h3 : W.tape = wc.tape) (h4 : W.output = wc.output) => show CellsAt w5 w4.heap.size 2 (gc (true, target)) ∧ Below w.heap.size w w5 from by
          have g : (wc.alloc (.cells #[.bool true, .int .u64 (target)] 46)).grownBy w5 none := ⟨hg.os.trans h2, hg.tape.trans h3, hg.output.trans h4, by rw [← h1]; exact hg.size, fun k hk hn => by rw [← h1] at hk ⊢; exact hg.block k hk hn⟩
          exact ⟨X5.out.grown g (by simp), below_none B5.out g hz5⟩
        go_region_with (go_at_call 28; (refine (GA.out _ ?_).mono ?_; exact PZ.out _ rfl; rintro e w5 ⟨rfl, hg, hp⟩; have F5 := hide (GZ.out _ _ hg rfl rfl rfl rfl); clear hg hp; obtain ⟨y0, y1⟩ := gtwo F5.out.1; dsimp only at y0 y1))
        all_goals go_wp2_with fail
        all_goals go_ret
        all_goals exact ⟨rfl, F5.out.2⟩

set_option linter.unusedVariables false in
set_option maxRecDepth 100000 in
set_option maxHeartbeats 1600000 in
theorem learns_tf (w : World) (seed : Int) (ws : (Lit.int .u64 seed).wf = true) (pc : Int) (wpc : (Lit.int .u64 pc).wf = true) (target : Int) (wt : (Lit.int .u64 target).wf = true)
    (a : Option Addr) (len cap : Nat) (z : Nat → Int) (hlen : len ≤ 9223372036854775807) (hr : IntRow .u64 w a len z) :
    Calls Try.prog 5 #[.int .u64 seed, .int .u64 pc, .int .u64 target, .bool true, .bool false, .slice a len cap] w fun e w' => e = .returned (.bool true) ∧ Below w.heap.size w w' := by
  obtain ⟨s0, s1⟩ := u64_wf ws
  obtain ⟨p0, p1⟩ := u64_wf wpc
  have HR := hide hr
  clear hr ws wpc wt
  go_enter Try.func5, Try.ntmps5
  go_wp2_with fail
  refine (pnew_any seed _ s0 s1).mono ?_
  rintro e w1 ⟨rfl, hg, hz, hp⟩
  have B1 := hide (And.intro hp (below_none (Below.refl w.heap.size w) hg (Nat.le_refl _)))
  clear hg hp
  simp only []
  go_wp2_with fail
  refine (awake21 _).mono ?_
  rintro e w2 ⟨rfl, hg⟩
  have B2 := hide (show PB w w2 w.heap.size (P.new seed) from ⟨B1.out.1.grown hg (by simp), below_none B1.out.2 hg (Nat.le_of_lt hz)⟩)
  have hz2 := B2.out.1.lt
  clear hg hz
  simp only []
  go_wp2_with fail
  refine (Learn_any _ ⟨pc, false, false, true, true, target⟩ _ _ B2.out.1 p0 p1).mono ?_
  rintro e w3 ⟨rfl, hg, hp⟩
  have I3 := hide (inv_start pc target true false _ B2.out.1.hist)
  have B3 := hide (show PB w w3 w.heap.size _ from ⟨hp, below_only B2.out.2 hg (Nat.le_of_lt hz2) (Nat.le_refl _)⟩)
  generalize (P.new seed).learn ⟨pc, false, false, true, true, target⟩ = q3 at I3 B3
  clear hg hp
  simp only []
  go_wp2_with fail
  go_loopg [14] 12 (fun g vi wr => ∃ (i : Nat) (p : P), i + g = 12 ∧ vi = .int .i64 i ∧ Hid (PB w wr w.heap.size p ∧ Inv pc target true false i p))
  case atStart => exact ⟨0, q3, by omega, rfl, B3.out, I3.out⟩
  case round =>
    obtain ⟨i, p, hig, rfl, hB⟩ := hrel
    have hz3 := hB.out.1.1.lt
    by_cases h12 : i < 12
    · have LL := hide (Learn_any w.heap.size ⟨pc, false, false, true, false, target⟩ wr p hB.out.1.1 p0 p1)
      have IS := hide (show Inv pc target true false (i + 1) (p.learn ⟨pc, false, false, true, false, target⟩) from inv_step pc target true false i p hB.out.1.1.ct hB.out.2)
      go_wp2_with fail
      refine LL.out.mono ?_
      rintro e w4 ⟨rfl, hg, hp⟩
      have B4 := hide (And.intro (show PB w w4 w.heap.size _ from ⟨hp, below_only hB.out.1.2 hg (Nat.le_of_lt hz3) (Nat.le_refl _)⟩) IS.out)
      clear hg hp
      simp only []
      go_wp2_with fail
      go_roundg (12 - (i + 1))
      case measure => omega
      case rel => exact ⟨i + 1, _, by omega, by go_num, B4⟩
    · obtain rfl : i = 12 := by omega
      have GU := guess_any w.heap.size pc wr p hB.out.1.1 p0 p1
      have EG := hide (show p.guess pc = (false, np pc) from by have := inv_end pc target true false p hB.out.2; simpa using this)
      rw [EG.out] at GU
      have GG := hide GU
      have GA := hide fun (W : World) (h : PAt W w.heap.size p) => show Calls Try.prog 28 #[.pointer (some ⟨w.heap.size, 0, none⟩), .int .u64 pc] W (GP w.heap.size W p (false, np pc)) from by
        have := guess_any w.heap.size pc W p h p0 p1
        rw [EG.out] at this
        exact this
      have B3' := hide hB.out.1
      clear GU hB EG B3 B2 B1 I3
      go_wp2_with fail
      refine GG.out.mono ?_
      rintro e w4 ⟨rfl, hg, hp⟩
      have B4 := hide (show PB w w4 w.heap.size p from ⟨hp, below_none B3'.out.2 hg (Nat.le_of_lt hz3)⟩)
      have hz4 := hp.lt
      clear hg hp
      simp only []
      have X4 := hide (show CellsAt (w4.alloc (.cells #[.bool false, .int .u64 (np pc)] 46)) w4.heap.size 2 (gc (false, np pc)) from gbox (false, np pc) w4)
      go_upto_block 2 with (fail)
      go_cut [] (fun wc => Hid (PB w wc w.heap.size p ∧ CellsAt wc w4.heap.size 2 (gc (false, np pc))))
      case first =>
        go_wp2_with fail
        go_loopg [16] 50 (fun g vi wq => ∃ (i : Nat), i + g = 50 ∧ vi = .int .i64 i ∧ Hid (PB w wq w.heap.size p ∧ CellsAt wq w4.heap.size 2 (gc (false, np pc))))
        case atStart => exact ⟨0, by omega, rfl, ⟨B4.out.1.alloc _, B4.out.2.alloc (Nat.le_of_lt hz4) _⟩, X4.out⟩
        case round =>
          obtain ⟨i, hig, rfl, hB⟩ := hrel
          by_cases hl : i < len
          · by_cases h50 : i < 50
            · have d50 : decide ((i : Int) < 50) = true := by simp; omega
              obtain ⟨ba, off, rfl, hba, hc, hw⟩ := HR.out i hl
              obtain ⟨g0, g1⟩ := u64_wf hw
              have hc2 := (keep_u64 hba hc).out _ hB.out.1.2
              have GZ := hide (guess_any w.heap.size (z i) _ p hB.out.1.1 g0 g1)
              clear hc hw
              go_wp2_with fail
              refine GZ.out.mono ?_
              rintro e w5 ⟨rfl, hg, hp⟩
              have B5 := hide (And.intro (show PB w w5 w.heap.size p from ⟨hp, below_none hB.out.1.2 hg (Nat.le_of_lt hB.out.1.1.lt)⟩) (hB.out.2.grown hg (by simp)))
              clear hg hp
              simp only []
              go_wp2_with fail
              go_roundg (50 - (i + 1))
              case measure => omega
              case rel => exact ⟨i + 1, by omega, by go_num, B5⟩
            · go_wp2_with fail
              go_meet
              exact hB
          · go_wp2_with fail
            go_meet
            exact hB
      case rest =>
        obtain ⟨x0, x1⟩ := gtwo hcut.out.2
        dsimp only at x0 x1
        have hx := hcut.out.2.lt
        have hzc := hcut.out.1.1.lt
        have X5 := hide (hcut.out.2.alloc (.cells #[.bool false, .int .u64 (np pc)] 46))
        have P5 := hide (hcut.out.1.1.alloc (.cells #[.bool false, .int .u64 (np pc)] 46))
        have B5 := hide (hcut.out.1.2.alloc (Nat.le_of_lt hzc) (.cells #[.bool false, .int .u64 (np pc)] 46))
        have hz5 : w.heap.size ≤ (wc.alloc (.cells #[.bool false, .int .u64 (np pc)] 46)).heap.size := by simp; omega
        go_wp2_with fail
        have PZ := hide fun (W : World) (h1 : W.heap = (wc.alloc (.cells #[.bool false, .int .u64 (np pc)] 46)).heap) => show PAt W w.heap.size p from ⟨P5.out.cells.of_block (by rw [h1]), P5.out.hist, P5.out.n, P5.out.ct⟩
        have GZ := hide fun (W w5 : World) (hg : W.grownBy w5 none) (h1 : W.heap = (wc.alloc (.cells #[.bool false, .int .u64 (np pc)] 46)).heap) (h2 : W.os = wc.os) (h3 : W.tape = wc.tape) (h4 : W.output = wc.output) => show CellsAt w5 w4.heap.size 2 (gc (false, np pc)) ∧ Below w.heap.size w w5 from by
          have g : (wc.alloc (.cells #[.bool false, .int .u64 (np pc)] 46)).grownBy w5 none := ⟨hg.os.trans h2, hg.tape.trans h3, hg.output.trans h4, by rw [← h1]; exact hg.size, fun k hk hn => by rw [← h1] at hk ⊢; exact hg.block k hk hn⟩
          exact ⟨X5.out.grown g (by simp), below_none B5.out g hz5⟩
        go_region_with (go_at_call 28; (refine (GA.out _ ?_).mono ?_; exact PZ.out _ rfl; rintro e w5 ⟨rfl, hg, hp⟩; have F5 := hide (GZ.out _ _ hg rfl rfl rfl rfl); clear hg hp; obtain ⟨y0, y1⟩ := gtwo F5.out.1; dsimp only at y0 y1))
        all_goals go_wp2_with fail
        all_goals go_ret
        all_goals exact ⟨rfl, F5.out.2⟩

set_option linter.unusedVariables false in
set_option maxRecDepth 100000 in
set_option maxHeartbeats 1600000 in
theorem learns_tt (w : World) (seed : Int) (ws : (Lit.int .u64 seed).wf = true) (pc : Int) (wpc : (Lit.int .u64 pc).wf = true) (target : Int) (wt : (Lit.int .u64 target).wf = true)
    (a : Option Addr) (len cap : Nat) (z : Nat → Int) (hlen : len ≤ 9223372036854775807) (hr : IntRow .u64 w a len z) :
    Calls Try.prog 5 #[.int .u64 seed, .int .u64 pc, .int .u64 target, .bool true, .bool true, .slice a len cap] w fun e w' => e = .returned (.bool true) ∧ Below w.heap.size w w' := by
  obtain ⟨s0, s1⟩ := u64_wf ws
  obtain ⟨p0, p1⟩ := u64_wf wpc
  have HR := hide hr
  clear hr ws wpc wt
  go_enter Try.func5, Try.ntmps5
  go_wp2_with fail
  refine (pnew_any seed _ s0 s1).mono ?_
  rintro e w1 ⟨rfl, hg, hz, hp⟩
  have B1 := hide (And.intro hp (below_none (Below.refl w.heap.size w) hg (Nat.le_refl _)))
  clear hg hp
  simp only []
  go_wp2_with fail
  refine (awake21 _).mono ?_
  rintro e w2 ⟨rfl, hg⟩
  have B2 := hide (show PB w w2 w.heap.size (P.new seed) from ⟨B1.out.1.grown hg (by simp), below_none B1.out.2 hg (Nat.le_of_lt hz)⟩)
  have hz2 := B2.out.1.lt
  clear hg hz
  simp only []
  go_wp2_with fail
  refine (Learn_any _ ⟨pc, false, false, true, true, target⟩ _ _ B2.out.1 p0 p1).mono ?_
  rintro e w3 ⟨rfl, hg, hp⟩
  have I3 := hide (inv_start pc target true true _ B2.out.1.hist)
  have B3 := hide (show PB w w3 w.heap.size _ from ⟨hp, below_only B2.out.2 hg (Nat.le_of_lt hz2) (Nat.le_refl _)⟩)
  generalize (P.new seed).learn ⟨pc, false, false, true, true, target⟩ = q3 at I3 B3
  clear hg hp
  simp only []
  go_wp2_with fail
  go_loopg [14] 12 (fun g vi wr => ∃ (i : Nat) (p : P), i + g = 12 ∧ vi = .int .i64 i ∧ Hid (PB w wr w.heap.size p ∧ Inv pc target true true i p))
  case atStart => exact ⟨0, q3, by omega, rfl, B3.out, I3.out⟩
  case round =>
    obtain ⟨i, p, hig, rfl, hB⟩ := hrel
    have hz3 := hB.out.1.1.lt
    by_cases h12 : i < 12
    · have LL := hide (Learn_any w.heap.size ⟨pc, false, false, true, true, target⟩ wr p hB.out.1.1 p0 p1)
      have IS := hide (show Inv pc target true true (i + 1) (p.learn ⟨pc, false, false, true, true, target⟩) from inv_step pc target true true i p hB.out.1.1.ct hB.out.2)
      go_wp2_with fail
      refine LL.out.mono ?_
      rintro e w4 ⟨rfl, hg, hp⟩
      have B4 := hide (And.intro (show PB w w4 w.heap.size _ from ⟨hp, below_only hB.out.1.2 hg (Nat.le_of_lt hz3) (Nat.le_refl _)⟩) IS.out)
      clear hg hp
      simp only []
      go_wp2_with fail
      go_roundg (12 - (i + 1))
      case measure => omega
      case rel => exact ⟨i + 1, _, by omega, by go_num, B4⟩
    · obtain rfl : i = 12 := by omega
      have GU := guess_any w.heap.size pc wr p hB.out.1.1 p0 p1
      have EG := hide (show p.guess pc = (true, target) from by have := inv_end pc target true true p hB.out.2; simpa using this)
      rw [EG.out] at GU
      have GG := hide GU
      have GA := hide fun (W : World) (h : PAt W w.heap.size p) => show Calls Try.prog 28 #[.pointer (some ⟨w.heap.size, 0, none⟩), .int .u64 pc] W (GP w.heap.size W p (true, target)) from by
        have := guess_any w.heap.size pc W p h p0 p1
        rw [EG.out] at this
        exact this
      have B3' := hide hB.out.1
      clear GU hB EG B3 B2 B1 I3
      go_wp2_with fail
      refine GG.out.mono ?_
      rintro e w4 ⟨rfl, hg, hp⟩
      have B4 := hide (show PB w w4 w.heap.size p from ⟨hp, below_none B3'.out.2 hg (Nat.le_of_lt hz3)⟩)
      have hz4 := hp.lt
      clear hg hp
      simp only []
      have X4 := hide (show CellsAt (w4.alloc (.cells #[.bool true, .int .u64 (target)] 46)) w4.heap.size 2 (gc (true, target)) from gbox (true, target) w4)
      go_upto_block 2 with (fail)
      go_cut [] (fun wc => Hid (PB w wc w.heap.size p ∧ CellsAt wc w4.heap.size 2 (gc (true, target))))
      case first =>
        go_wp2_with fail
        go_loopg [16] 50 (fun g vi wq => ∃ (i : Nat), i + g = 50 ∧ vi = .int .i64 i ∧ Hid (PB w wq w.heap.size p ∧ CellsAt wq w4.heap.size 2 (gc (true, target))))
        case atStart => exact ⟨0, by omega, rfl, ⟨B4.out.1.alloc _, B4.out.2.alloc (Nat.le_of_lt hz4) _⟩, X4.out⟩
        case round =>
          obtain ⟨i, hig, rfl, hB⟩ := hrel
          by_cases hl : i < len
          · by_cases h50 : i < 50
            · have d50 : decide ((i : Int) < 50) = true := by simp; omega
              obtain ⟨ba, off, rfl, hba, hc, hw⟩ := HR.out i hl
              obtain ⟨g0, g1⟩ := u64_wf hw
              have hc2 := (keep_u64 hba hc).out _ hB.out.1.2
              have GZ := hide (guess_any w.heap.size (z i) _ p hB.out.1.1 g0 g1)
              clear hc hw
              go_wp2_with fail
              refine GZ.out.mono ?_
              rintro e w5 ⟨rfl, hg, hp⟩
              have B5 := hide (And.intro (show PB w w5 w.heap.size p from ⟨hp, below_none hB.out.1.2 hg (Nat.le_of_lt hB.out.1.1.lt)⟩) (hB.out.2.grown hg (by simp)))
              clear hg hp
              simp only []
              go_wp2_with fail
              go_roundg (50 - (i + 1))
              case measure => omega
              case rel => exact ⟨i + 1, by omega, by go_num, B5⟩
            · go_wp2_with fail
              go_meet
              exact hB
          · go_wp2_with fail
            go_meet
            exact hB
      case rest =>
        obtain ⟨x0, x1⟩ := gtwo hcut.out.2
        dsimp only at x0 x1
        have hx := hcut.out.2.lt
        have hzc := hcut.out.1.1.lt
        have X5 := hide (hcut.out.2.alloc (.cells #[.bool true, .int .u64 (target)] 46))
        have P5 := hide (hcut.out.1.1.alloc (.cells #[.bool true, .int .u64 (target)] 46))
        have B5 := hide (hcut.out.1.2.alloc (Nat.le_of_lt hzc) (.cells #[.bool true, .int .u64 (target)] 46))
        have hz5 : w.heap.size ≤ (wc.alloc (.cells #[.bool true, .int .u64 (target)] 46)).heap.size := by simp; omega
        go_wp2_with fail
        have PZ := hide fun (W : World) (h1 : W.heap = (wc.alloc (.cells #[.bool true, .int .u64 (target)] 46)).heap) => show PAt W w.heap.size p from ⟨P5.out.cells.of_block (by rw [h1]), P5.out.hist, P5.out.n, P5.out.ct⟩
        have GZ := hide fun (W w5 : World) (hg : W.grownBy w5 none) (h1 : W.heap = (wc.alloc (.cells #[.bool true, .int .u64 (target)] 46)).heap) (h2 : W.os = wc.os) (h3 : W.tape = wc.tape) (h4 : W.output = wc.output) => show CellsAt w5 w4.heap.size 2 (gc (true, target)) ∧ Below w.heap.size w w5 from by
          have g : (wc.alloc (.cells #[.bool true, .int .u64 (target)] 46)).grownBy w5 none := ⟨hg.os.trans h2, hg.tape.trans h3, hg.output.trans h4, by rw [← h1]; exact hg.size, fun k hk hn => by rw [← h1] at hk ⊢; exact hg.block k hk hn⟩
          exact ⟨X5.out.grown g (by simp), below_none B5.out g hz5⟩
        go_region_with (go_at_call 28; (refine (GA.out _ ?_).mono ?_; exact PZ.out _ rfl; rintro e w5 ⟨rfl, hg, hp⟩; have F5 := hide (GZ.out _ _ hg rfl rfl rfl rfl); clear hg hp; obtain ⟨y0, y1⟩ := gtwo F5.out.1; dsimp only at y0 y1))
        all_goals go_wp2_with fail
        all_goals go_ret
        all_goals exact ⟨rfl, F5.out.2⟩

theorem learns_walk (w : World) (seed : Int) (ws : (Lit.int .u64 seed).wf = true) (pc : Int) (wpc : (Lit.int .u64 pc).wf = true) (target : Int) (wt : (Lit.int .u64 target).wf = true) (cond taken : Bool)
    (a : Option Addr) (len cap : Nat) (z : Nat → Int) (hlen : len ≤ 9223372036854775807) (hr : IntRow .u64 w a len z) :
    Calls Try.prog 5 #[.int .u64 seed, .int .u64 pc, .int .u64 target, .bool cond, .bool taken, .slice a len cap] w fun e w' => e = .returned (.bool true) ∧ Below w.heap.size w w' := by
  cases cond <;> cases taken
  · exact learns_ff w seed ws pc wpc target wt a len cap z hlen hr
  · exact learns_ft w seed ws pc wpc target wt a len cap z hlen hr
  · exact learns_tf w seed ws pc wpc target wt a len cap z hlen hr
  · exact learns_tt w seed ws pc wpc target wt a len cap z hlen hr
end Go.Proofs.Ytkjgklpdoomjcaa

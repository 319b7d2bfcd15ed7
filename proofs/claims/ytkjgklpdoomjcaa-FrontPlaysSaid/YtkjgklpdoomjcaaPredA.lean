/- The walk of PredictApart, and its plain law. -/
import Derived.Test.YtkjgklpdoomjcaaPredH
import Derived.Deep.DeepCutAuto
import Derived.Deep.CutBlock
namespace Go.Proofs.Ytkjgklpdoomjcaa
open Go.RowKit

/-- A call of the predictor's scripts, in memory. -/
def OF (W : World) (ba off i : Nat) (o : Op21) : Prop :=
  W.cell? ⟨ba, off + i * 9, none⟩ = some (.int .u64 o.pc) ∧ W.cell? ⟨ba, off + i * 9 + 1, none⟩ = some (.int .u64 o.j.pc) ∧ W.cell? ⟨ba, off + i * 9 + 2, none⟩ = some (.bool o.j.call) ∧ W.cell? ⟨ba, off + i * 9 + 3, none⟩ = some (.bool o.j.ret) ∧
  W.cell? ⟨ba, off + i * 9 + 4, none⟩ = some (.bool o.j.cond) ∧ W.cell? ⟨ba, off + i * 9 + 5, none⟩ = some (.bool o.j.taken) ∧ W.cell? ⟨ba, off + i * 9 + 6, none⟩ = some (.int .u64 o.j.target) ∧
  W.cell? ⟨ba, off + i * 9 + 7, none⟩ = some (.bool o.learns) ∧ W.cell? ⟨ba, off + i * 9 + 8, none⟩ = some (.bool o.squash)
theorem RowOf.op21 {w : World} {a : Option Addr} {len : Nat} (hr : RowOf w a len 9 Op21.l Op21.wf) (i : Nat) (hi : i < len) :
    ∃ ba off o, a = some ⟨ba, off, none⟩ ∧ ba < w.heap.size ∧ (0 ≤ o.pc ∧ o.pc < 18446744073709551616) ∧ (0 ≤ o.j.pc ∧ o.j.pc < 18446744073709551616) ∧ Hid (∀ W, Below w.heap.size w W → OF W ba off i o) := by
  obtain ⟨ba, off, o, ha, hb, hw, hc⟩ := hr i hi
  have g : ∀ W, Below w.heap.size w W → ∀ k, k < 9 → W.cell? ⟨ba, off + i * 9 + k, none⟩ = o.l[k]? := fun W h k hk => (h.cell (p := ⟨ba, off + i * 9 + k, none⟩) hb).trans (hc k hk)
  exact ⟨ba, off, o, ha, hb, u64_wf hw.1, u64_wf hw.2.1, fun W h => ⟨g W h 0 (by omega), g W h 1 (by omega), g W h 2 (by omega), g W h 3 (by omega), g W h 4 (by omega), g W h 5 (by omega), g W h 6 (by omega), g W h 7 (by omega), g W h 8 (by omega)⟩⟩

theorem u64_and15 (x : Nat) (hx : x < 18446744073709551616) : bits BinOp.and IntKind.u64 (x : Int) 15 = ((x % 16 : Nat) : Int) := by
  show IntKind.u64.wrap ((BitVec.ofInt 64 (x : Int) &&& BitVec.ofInt 64 ((15 : Nat) : Int)).toNat : Int) = _
  rw [BitVec.toNat_and, BitVec.ofInt_natCast, BitVec.ofInt_natCast, BitVec.toNat_ofNat, BitVec.toNat_ofNat, IntKind.wrap_u64]
  have e : x % 2 ^ 64 &&& 15 % 2 ^ 64 = x % 16 := by
    rw [Nat.mod_eq_of_lt (by omega), Nat.mod_eq_of_lt (by omega)]
    exact Nat.and_two_pow_sub_one_eq_mod x 4
  rw [e]
  omega
theorem tix_bits (pc : Int) (h0 : 0 ≤ pc) (h1 : pc < 18446744073709551616) : bits BinOp.and IntKind.u64 (pc / 4) 15 = (tix pc : Int) := by
  have e : pc / 4 = ((pc.toNat / 4 : Nat) : Int) := by omega
  rw [e, u64_and15 _ (by omega)]
  unfold tix
  omega

/-- A jump that is not conditional, call or return, and not taken to this place of the table, plays no part. -/
theorem apart_plain (s : P) (j : J) (pc : Int) (hc : j.cond = false) (hr : j.ret = false) (hl : j.call = false) (ht : j.taken = true → tix j.pc ≠ tix pc) : (s.learn j).guess pc = s.guess pc ∧ (s.learn j).hist = s.hist := by
  have e : ((s.cond j).popped j).called j = s := by unfold P.called P.popped P.cond; rw [hc, hr, hl]; simp
  unfold P.learn
  rw [e]
  unfold P.aimed
  by_cases h : j.taken = true
  · rw [if_pos h]
    refine ⟨?_, rfl⟩
    unfold P.guess
    simp only []
    rw [if_neg (Ne.symm (ht h))]
  · rw [if_neg h]; exact ⟨rfl, rfl⟩

/-- The two predictors, the variable j, and nothing of what was there turned. -/
structure AP (w : World) (bp bq : Nat) (j : J) (s s' : P) (wr : World) : Prop where
  p : PAt wr bp s
  q : PAt wr bq s'
  box : CellsAt wr w.heap.size 6 j.c
  below : Below w.heap.size w wr

theorem PAt.other {w : World} {b : Nat} {p : P} (h : PAt w b p) (a : Addr) (hne : b ≠ a.block) (v : Value) : PAt (w.setCell a v) b p := ⟨h.cells.other a hne v, h.hist, h.n, h.ct⟩
theorem AP.setP {w wr w' : World} {bp bq : Nat} {j : J} {s s' t : P} (h : AP w bp bq j s s' wr) (g : wr.grownBy w' (some bp)) (hp : PAt w' bp t) (h1 : bp ≠ bq) (h2 : w.heap.size < bp) : AP w bp bq j t s' w' :=
  ⟨hp, h.q.grown g (by simp; omega), h.box.grown g (by simp; omega), below_only h.below g (Nat.le_of_lt h.box.lt) (Nat.le_of_lt h2)⟩
theorem AP.setQ {w wr w' : World} {bp bq : Nat} {j : J} {s s' t : P} (h : AP w bp bq j s s' wr) (g : wr.grownBy w' (some bq)) (hp : PAt w' bq t) (h1 : bp ≠ bq) (h2 : w.heap.size < bq) : AP w bp bq j s t w' :=
  ⟨h.p.grown g (by simp; omega), hp, h.box.grown g (by simp; omega), below_only h.below g (Nat.le_of_lt h.box.lt) (Nat.le_of_lt h2)⟩
theorem AP.none {w wr w' : World} {bp bq : Nat} {j : J} {s s' : P} (h : AP w bp bq j s s' wr) (g : wr.grownBy w' none) : AP w bp bq j s s' w' :=
  ⟨h.p.grown g (by simp), h.q.grown g (by simp), h.box.grown g (by simp), below_none h.below g (Nat.le_of_lt h.box.lt)⟩

set_option linter.unusedVariables false in
set_option maxRecDepth 100000 in
set_option maxHeartbeats 1600000 in
theorem apart_walk (w : World) (seed : Int) (ws : (Lit.int .u64 seed).wf = true) (pc : Int) (wpc : (Lit.int .u64 pc).wf = true) (a : Option Addr) (len cap : Nat) (hlen : len ≤ 9223372036854775807) (hr : RowOf w a len 9 Op21.l Op21.wf) (j : J) (wj : j.wf) :
    Calls Try.prog 9 #[.int .u64 seed, .int .u64 pc, .slice a len cap, .agg #[.int .u64 j.pc, .bool j.call, .bool j.ret, .bool j.cond, .bool j.taken, .int .u64 j.target]] w fun e w' => e = .returned (.bool true) ∧ Below w.heap.size w w' := by
  obtain ⟨s0, s1⟩ := u64_wf ws
  obtain ⟨p0, p1⟩ := u64_wf wpc
  obtain ⟨j0, j1⟩ := u64_wf wj.1
  have HR := hide hr
  clear hr ws wpc wj
  go_enter Try.func9, Try.ntmps9
  go_wp2_with fail
  refine (pnew_any seed _ s0 s1).mono ?_
  rintro e w1 ⟨rfl, hg, hz, hp⟩
  simp only [World.size_alloc] at hz hp
  have B1 := hide (And.intro hp (And.intro ((j.box w).grown hg (by simp)) (below_none ((Below.refl w.heap.size w).alloc (Nat.le_refl _) _) hg (by simp))))
  have hz1 : w.heap.size + 1 < w1.heap.size := hz
  clear hg hp hz
  simp only [World.size_alloc]
  go_wp2_with fail
  refine (pnew_any seed _ s0 s1).mono ?_
  rintro e w2 ⟨rfl, hg, hz, hp⟩
  have A2 := hide (show AP w (w.heap.size + 1) w1.heap.size j (P.new seed) (P.new seed) w2 from ⟨B1.out.1.grown hg (by simp), hp, B1.out.2.1.grown hg (by simp), below_none B1.out.2.2 hg (by omega)⟩)
  clear hg hp hz
  simp only []
  go_wp2_with fail
  refine (awake21 _).mono ?_
  rintro e w3 ⟨rfl, hg⟩
  have A3 := hide (show AP w (w.heap.size + 1) w1.heap.size j (P.new seed) (P.new seed) w3 from ⟨A2.out.p.grown hg (by simp), A2.out.q.grown hg (by simp), A2.out.box.grown hg (by simp), below_none A2.out.below hg (Nat.le_of_lt A2.out.box.lt)⟩)
  clear hg
  generalize w1.heap.size = bq at A3 hz1 ⊢
  have hne1 : w.heap.size + 1 ≠ bq := by omega
  have hne2 : w.heap.size ≠ bq := by omega
  simp only []
  go_upto_block 0 with (fail)
  go_cut [] (fun wc => Hid (∃ s, AP w (w.heap.size + 1) bq j s s wc))
  case first =>
    go_wp2_with fail
    go_loopg [11] 60 (fun g vi wr => ∃ (i : Nat) (s : P), i + g = 60 ∧ vi = .int .i64 i ∧ Hid (AP w (w.heap.size + 1) bq j s s wr))
    case atStart => exact ⟨0, P.new seed, by omega, rfl, A3⟩
    case round =>
      obtain ⟨i, s, hig, rfl, hA⟩ := hrel
      by_cases hl : i < len
      · by_cases h60 : i < 60
        · have d60 : decide ((i : Int) < 60) = true := by simp; omega
          obtain ⟨ba, off, o, rfl, hba, -, ⟨o0, o1⟩, HO⟩ := HR.out.op21 i hl
          obtain ⟨c0, c1, c2, c3, c4, c5, c6, c7, c8⟩ := HO.out _ hA.out.below
          cases hln : o.learns
          · rw [hln] at c7
            clear hln
            go_wp2_with fail
            go_roundg (60 - (i + 1))
            case measure => omega
            case rel => exact ⟨i + 1, s, by omega, by go_num, hA⟩
          · rw [hln] at c7
            clear hln
            have L1 := hide (Learn_any _ o.j _ s hA.out.p o0 o1)
            go_wp2_with fail
            refine L1.out.mono ?_
            rintro e w4 ⟨rfl, hg, hp⟩
            have A4 := hide (hA.out.setP hg hp hne1 (by omega))
            clear hg hp c0 c1 c2 c3 c4 c5 c6 c7 c8 L1
            obtain ⟨c0, c1, c2, c3, c4, c5, c6, c7, c8⟩ := HO.out _ A4.out.below
            have L2 := hide (Learn_any _ o.j _ s A4.out.q o0 o1)
            simp only []
            go_wp2_with fail
            refine L2.out.mono ?_
            rintro e w5 ⟨rfl, hg, hp⟩
            have A5 := hide (A4.out.setQ hg hp hne1 (by omega))
            clear hg hp
            simp only []
            go_wp2_with fail
            go_roundg (60 - (i + 1))
            case measure => omega
            case rel => exact ⟨i + 1, s.learn o.j, by omega, by go_num, A5⟩
        · go_wp2_with fail
          go_meet
          exact ⟨s, hA.out⟩
      · go_wp2_with fail
        go_meet
        exact ⟨s, hA.out⟩
  case rest =>
    obtain ⟨s, hA⟩ := hcut.out
    have A4 := hide hA
    clear hA hcut
    obtain ⟨x0, x1, x2, x3, x4, x5⟩ := J.six A4.out.box
    have f := A4.out.box.free
    have hz4 := A4.out.box.lt
    have e1 := tix_bits j.pc j0 j1
    have e2 := tix_bits pc p0 p1
    by_cases ht : tix j.pc = tix pc
    · have tb : ((tix j.pc : Int) == (tix pc : Int)) = true := beq_iff_eq.2 (by omega)
      clear ht
      have W5 := hide (show PAt ((((wc.setCell ⟨w.heap.size, 3, none⟩ (.bool false)).setCell ⟨w.heap.size, 1, none⟩ (.bool false)).setCell ⟨w.heap.size, 2, none⟩ (.bool false)).setCell ⟨w.heap.size, 4, none⟩ (.bool false)) (w.heap.size + 1) s ∧ PAt ((((wc.setCell ⟨w.heap.size, 3, none⟩ (.bool false)).setCell ⟨w.heap.size, 1, none⟩ (.bool false)).setCell ⟨w.heap.size, 2, none⟩ (.bool false)).setCell ⟨w.heap.size, 4, none⟩ (.bool false)) bq s ∧ Below w.heap.size w ((((wc.setCell ⟨w.heap.size, 3, none⟩ (.bool false)).setCell ⟨w.heap.size, 1, none⟩ (.bool false)).setCell ⟨w.heap.size, 2, none⟩ (.bool false)).setCell ⟨w.heap.size, 4, none⟩ (.bool false)) from ⟨(PAt.other (PAt.other (PAt.other (PAt.other A4.out.p ⟨w.heap.size, 3, none⟩ (by simp) _) ⟨w.heap.size, 1, none⟩ (by simp) _) ⟨w.heap.size, 2, none⟩ (by simp) _) ⟨w.heap.size, 4, none⟩ (by simp) _), (PAt.other (PAt.other (PAt.other (PAt.other A4.out.q ⟨w.heap.size, 3, none⟩ (by simp; omega) _) ⟨w.heap.size, 1, none⟩ (by simp; omega) _) ⟨w.heap.size, 2, none⟩ (by simp; omega) _) ⟨w.heap.size, 4, none⟩ (by simp; omega) _), ((((A4.out.below.setCell (p := ⟨w.heap.size, 3, none⟩) (Nat.le_refl _) _).setCell (p := ⟨w.heap.size, 1, none⟩) (Nat.le_refl _) _).setCell (p := ⟨w.heap.size, 2, none⟩) (Nat.le_refl _) _).setCell (p := ⟨w.heap.size, 4, none⟩) (Nat.le_refl _) _)⟩)
      have L := hide (Learn_any (w.heap.size + 1) ⟨j.pc, false, false, false, false, j.target⟩ _ s W5.out.1 j0 j1)
      have AL := hide (apart_plain s ⟨j.pc, false, false, false, false, j.target⟩ pc rfl rfl rfl (by simp))
      go_wp2_with fail
      refine L.out.mono ?_
      rintro e w6 ⟨rfl, hg, hp⟩
      have W6 := hide (And.intro hp (And.intro (W5.out.2.1.grown hg (by simp; omega)) (below_only W5.out.2.2 hg (by simp [World.setCell]; omega) (by omega))))
      have hz6 : w.heap.size ≤ w6.heap.size := by have := hg.size; simp [World.setCell] at this; omega
      have GP1 := guess_any (w.heap.size + 1) pc w6 _ W6.out.1 p0 p1
      rw [AL.out.1] at GP1
      have G1 := hide GP1
      clear hg hp GP1 L
      simp only []
      go_wp2_with fail
      refine G1.out.mono ?_
      rintro e w7 ⟨rfl, hg, hp⟩
      have W7 := hide (And.intro hp (And.intro (W6.out.2.1.grown hg (by simp)) (below_none W6.out.2.2 hg hz6)))
      have hz7 := Nat.le_trans hz6 hg.size
      clear hg hp G1
      have G2 := hide (guess_any bq pc w7 s W7.out.2.1 p0 p1)
      simp only []
      go_wp2_with fail
      refine G2.out.mono ?_
      rintro e w8 ⟨rfl, hg, hp⟩
      have W8 := hide (And.intro (W7.out.1.grown hg (by simp)) (And.intro hp (below_none W7.out.2.2 hg hz7)))
      clear hg hp G2
      have H1 := history_any (w.heap.size + 1) w8 _ W8.out.1
      rw [AL.out.2] at H1
      have HH1 := hide H1
      have HH2 := hide (history_any bq w8 s W8.out.2.1)
      clear H1
      generalize s.guess pc = g
      obtain ⟨g1, g2⟩ := g
      simp only []
      go_wp2_with fail
      refine HH1.out.mono ?_
      rintro e w9 ⟨rfl, rfl⟩
      simp only []
      go_wp2_with fail
      refine HH2.out.mono ?_
      rintro e w9 ⟨rfl, rfl⟩
      simp only []
      go_wp2_with fail
      go_ret
      exact ⟨by simp, W8.out.2.2⟩
    · have tb : ((tix j.pc : Int) == (tix pc : Int)) = false := beq_eq_false_iff_ne.2 (by omega)
      have HT := hide ht
      clear ht
      have W5 := hide (show PAt (((wc.setCell ⟨w.heap.size, 3, none⟩ (.bool false)).setCell ⟨w.heap.size, 1, none⟩ (.bool false)).setCell ⟨w.heap.size, 2, none⟩ (.bool false)) (w.heap.size + 1) s ∧ PAt (((wc.setCell ⟨w.heap.size, 3, none⟩ (.bool false)).setCell ⟨w.heap.size, 1, none⟩ (.bool false)).setCell ⟨w.heap.size, 2, none⟩ (.bool false)) bq s ∧ Below w.heap.size w (((wc.setCell ⟨w.heap.size, 3, none⟩ (.bool false)).setCell ⟨w.heap.size, 1, none⟩ (.bool false)).setCell ⟨w.heap.size, 2, none⟩ (.bool false)) from ⟨(PAt.other (PAt.other (PAt.other A4.out.p ⟨w.heap.size, 3, none⟩ (by simp) _) ⟨w.heap.size, 1, none⟩ (by simp) _) ⟨w.heap.size, 2, none⟩ (by simp) _), (PAt.other (PAt.other (PAt.other A4.out.q ⟨w.heap.size, 3, none⟩ (by simp; omega) _) ⟨w.heap.size, 1, none⟩ (by simp; omega) _) ⟨w.heap.size, 2, none⟩ (by simp; omega) _), (((A4.out.below.setCell (p := ⟨w.heap.size, 3, none⟩) (Nat.le_refl _) _).setCell (p := ⟨w.heap.size, 1, none⟩) (Nat.le_refl _) _).setCell (p := ⟨w.heap.size, 2, none⟩) (Nat.le_refl _) _)⟩)
      have L := hide (Learn_any (w.heap.size + 1) ⟨j.pc, false, false, false, j.taken, j.target⟩ _ s W5.out.1 j0 j1)
      have AL := hide (apart_plain s ⟨j.pc, false, false, false, j.taken, j.target⟩ pc rfl rfl rfl (fun _ => HT.out))
      go_wp2_with fail
      refine L.out.mono ?_
      rintro e w6 ⟨rfl, hg, hp⟩
      have W6 := hide (And.intro hp (And.intro (W5.out.2.1.grown hg (by simp; omega)) (below_only W5.out.2.2 hg (by simp [World.setCell]; omega) (by omega))))
      have hz6 : w.heap.size ≤ w6.heap.size := by have := hg.size; simp [World.setCell] at this; omega
      have GP1 := guess_any (w.heap.size + 1) pc w6 _ W6.out.1 p0 p1
      rw [AL.out.1] at GP1
      have G1 := hide GP1
      clear hg hp GP1 L
      simp only []
      go_wp2_with fail
      refine G1.out.mono ?_
      rintro e w7 ⟨rfl, hg, hp⟩
      have W7 := hide (And.intro hp (And.intro (W6.out.2.1.grown hg (by simp)) (below_none W6.out.2.2 hg hz6)))
      have hz7 := Nat.le_trans hz6 hg.size
      clear hg hp G1
      have G2 := hide (guess_any bq pc w7 s W7.out.2.1 p0 p1)
      simp only []
      go_wp2_with fail
      refine G2.out.mono ?_
      rintro e w8 ⟨rfl, hg, hp⟩
      have W8 := hide (And.intro (W7.out.1.grown hg (by simp)) (And.intro hp (below_none W7.out.2.2 hg hz7)))
      clear hg hp G2
      have H1 := history_any (w.heap.size + 1) w8 _ W8.out.1
      rw [AL.out.2] at H1
      have HH1 := hide H1
      have HH2 := hide (history_any bq w8 s W8.out.2.1)
      clear H1
      generalize s.guess pc = g
      obtain ⟨g1, g2⟩ := g
      simp only []
      go_wp2_with fail
      refine HH1.out.mono ?_
      rintro e w9 ⟨rfl, rfl⟩
      simp only []
      go_wp2_with fail
      refine HH2.out.mono ?_
      rintro e w9 ⟨rfl, rfl⟩
      simp only []
      go_wp2_with fail
      go_ret
      exact ⟨by simp, W8.out.2.2⟩
end Go.Proofs.Ytkjgklpdoomjcaa

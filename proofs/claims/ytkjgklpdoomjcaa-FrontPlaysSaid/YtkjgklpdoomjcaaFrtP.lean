/- The walk of FrontPlays. -/
import Derived.Test.YtkjgklpdoomjcaaFrtX
import Derived.Test.YtkjgklpdoomjcaaFrtT
namespace Go.Proofs.Ytkjgklpdoomjcaa.Wide
open Go.RowKit
set_option linter.unusedVariables false
set_option linter.unusedSimpArgs false

theorem u64_in {n : Int} (h : (Lit.int .u64 n).wf = true) : 0 ≤ n ∧ n < 18446744073709551616 := by
  simp [Lit.wf] at h
  have h1 : IntKind.u64.min = 0 := by decide
  have h2 : IntKind.u64.max = 18446744073709551615 := by decide
  omega
/-- Any step. -/
theorem step_any {W w : World} {b qb pb sb rb : Nat} {pc : Int} {fl : Bool} {L : List S} {ep : Nat} {p : P} {a : Option Addr} {cap : Nat} {c : Option Addr} {k : Nat} (o : Op27) (ho : o.wf) (he : ep ≤ 4294967295) (h : FT W b qb pb sb rb pc fl L ep p a cap c k w) :
    Calls Try.prog 46 #[.pointer (some ⟨sb, 0, none⟩), .pointer (some ⟨b, 0, none⟩), .agg (ov o.kind o.pc o.epoch o.bits o.fault o.j)] w (SF W b qb pb sb rb ep) := by
  obtain ⟨kind, x, e, bits, fault, j⟩ := o
  obtain ⟨_, hx, _, _, _, hj1, hj2⟩ := ho
  have x2 := u64_in hx
  have j1 := u64_in hj1
  have j2 := u64_in hj2
  by_cases k2 : kind = 2
  · subst k2
    cases L with
    | nil => exact step_take0 x e bits fault j h
    | cons s l => exact step_take1 x e bits fault j h
  · by_cases k3 : kind = 3
    · subst k3
      exact step_turn x e bits fault j x2.1 x2.2 he h
    · by_cases k4 : kind = 4
      · subst k4
        exact step_learn x e bits fault j j1.1 j1.2 j2 h
      · exact step_got kind x e bits fault j k2 k3 k4 h
/-- What lies at the head of a round. -/
def FI (W : World) (b qb pb sb rb : Nat) (i : Nat) (w : World) : Prop := ∃ (pc : Int) (fl : Bool) (L : List S) (ep : Nat) (p : P) (a : Option Addr) (cap : Nat) (c : Option Addr) (k : Nat), ep ≤ i ∧ FT W b qb pb sb rb pc fl L ep p a cap c k w
theorem FI.bel {W : World} {b qb pb sb rb i : Nat} {w : World} (h : FI W b qb pb sb rb i w) : Below W.heap.size W w := by
  obtain ⟨_, _, _, _, _, _, _, _, _, _, h⟩ := h
  exact h.bel
theorem FI.step {W : World} {b qb pb sb rb i : Nat} {w : World} (h : FI W b qb pb sb rb i w) (hi : i ≤ 200) (o : Op27) (ho : o.wf) :
    Calls Try.prog 46 #[.pointer (some ⟨sb, 0, none⟩), .pointer (some ⟨b, 0, none⟩), .agg (ov o.kind o.pc o.epoch o.bits o.fault o.j)] w fun e w' => e = .returned (.bool true) ∧ FI W b qb pb sb rb (i + 1) w' := by
  obtain ⟨pc, fl, L, ep, p, a, cap, c, k, he, h⟩ := h
  exact (step_any o ho (by omega) h).mono fun e w' ⟨h1, pc', fl', L', ep', p', a', cap', c', k', he', h'⟩ => ⟨h1, pc', fl', L', ep', p', a', cap', c', k', by omega, h'⟩
theorem FI.told {W : World} {b qb pb sb rb i : Nat} {w : World} (h : FI W b qb pb sb rb i w) (lo hi : Int) :
    Calls Try.prog 45 #[.pointer (some ⟨sb, 0, none⟩), .pointer (some ⟨b, 0, none⟩), .int .u64 lo, .int .u64 hi] w fun e w' => e = .returned (.bool true) ∧ FI W b qb pb sb rb i w' := by
  obtain ⟨pc, fl, L, ep, p, a, cap, c, k, he, h⟩ := h
  exact (told27 lo hi h).mono fun e w' ⟨h1, h'⟩ => ⟨h1, pc, fl, L, ep, p, a, cap, c, k, he, h'⟩
theorem FI.keep {W : World} {b qb pb sb rb i : Nat} {w w' : World} (h : FI W b qb pb sb rb i w) (g : Below w.heap.size w w') : FI W b qb pb sb rb i w' := by
  obtain ⟨pc, fl, L, ep, p, a, cap, c, k, he, h⟩ := h
  exact ⟨pc, fl, L, ep, p, a, cap, c, k, he, h.keep ⟨g.os, g.tape, g.output, g.size, fun k hk _ => g.block k hk⟩⟩
/-- At the start. -/
theorem FI.start {W w1 w2 : World} {b qb pb : Nat} {pc seed : Int} (p0 : 0 ≤ pc) (p1 : pc < 18446744073709551616) (hf : FS W w1 b qb pb pc false [] 0 (P.new seed)) (gb : W.heap.size ≤ b) (gq : W.heap.size ≤ qb) (gp : W.heap.size ≤ pb) (hg : w1.grownBy w2 none) (hz : w1.heap.size < w2.heap.size) (hr : RAt w2 w1.heap.size none 0 (P.new seed)) :
    FI W b qb pb w2.heap.size w1.heap.size 0 (w2.alloc (.cells #[.int .u64 pc, .int .i64 0, .bool false, .slice none 0 0, .pointer (some ⟨w1.heap.size, 0, none⟩)] 86)) := by
  have b1 := hf.fa.2.2.2.2.2.2
  have b2 := hf.ql.lt
  have b3 := hf.pa.lt
  have hk := (hf.keep hg).keep (only_alloc (World.grownBy.refl _ _) (.cells #[.int .u64 pc, .int .i64 0, .bool false, .slice none 0 0, .pointer (some ⟨w1.heap.size, 0, none⟩)] 86))
  have bg := hf.big
  have hsc : CellsAt (w2.alloc (.cells #[.int .u64 pc, .int .i64 0, .bool false, .slice none 0 0, .pointer (some ⟨w1.heap.size, 0, none⟩)] 86)) w2.heap.size 5 (stc w1.heap.size pc 0 false none 0 0) :=
    CellsAt.new w2 _ 86 5 _ (by omega) fun o ho => by
      rcases (by omega : o = 0 ∨ o = 1 ∨ o = 2 ∨ o = 3 ∨ o = 4) with rfl | rfl | rfl | rfl | rfl <;> rfl
  have hrt : RT (w2.alloc (.cells #[.int .u64 pc, .int .i64 0, .bool false, .slice none 0 0, .pointer (some ⟨w1.heap.size, 0, none⟩)] 86)) w2.heap.size w1.heap.size pc false [] 0 (P.new seed) none 0 none 0 :=
    ⟨hsc, SL.nil, hr.alloc _, by omega, Apart.none_ _, Apart.none_ _, Apart.none_ _, fun _ e => by cases e⟩
  refine ⟨pc, false, [], 0, P.new seed, none, 0, none, 0, Nat.le_refl _, ?_⟩
  exact ⟨hk.base, hrt, ⟨by omega, by omega, Apart.none_ _, Apart.none_ _⟩, ⟨by omega, by omega, Apart.none_ _, Apart.none_ _⟩, ⟨by omega, by omega, Apart.none_ _, Apart.none_ _⟩, gb, gq, gp, by omega, by omega, (fun _ e => by cases e), hk.below gb gq gp, ⟨p0, p1⟩, PW.new seed⟩

set_option maxRecDepth 100000 in
set_option maxHeartbeats 6400000 in
theorem plays27_walk (W : World) (seed : Int) (ws : (Lit.int .u64 seed).wf = true) (pc : Int) (wp : (Lit.int .u64 pc).wf = true) (sa : Option Addr) (len cs : Nat) (hlen : len ≤ 9223372036854775807) (hr : RowOf W sa len 11 Op27.l Op27.wf) (lo : Int) (wlo : (Lit.int .u64 lo).wf = true) (hi : Int) (whi : (Lit.int .u64 hi).wf = true) :
    Calls Try.prog 15 #[.int .u64 seed, .int .u64 pc, .slice sa len cs, .int .u64 lo, .int .u64 hi] W fun e w' => e = .returned (.bool true) ∧ Below W.heap.size W w' := by
  obtain ⟨s0, s1⟩ := u64_in ws
  obtain ⟨p0, p1⟩ := u64_in wp
  have HR := hide hr
  have NW := hide (fnew W seed pc s0 s1)
  clear hr ws wp wlo whi
  go_enter Try.func15, Try.ntmps15
  go_wp2_with fail
  refine NW.out.mono ?_
  rintro e w1 ⟨b, qb, pb, rfl, hf, gb, gq, gp⟩
  have H1 := hide hf
  clear hf NW
  simp only []
  go_wp2_with fail
  refine (rnew_any seed _ s0 s1).mono ?_
  rintro e w2 ⟨rfl, hg, hz, hra⟩
  have I2 := hide (FI.start p0 p1 H1.out gb gq gp hg hz hra)
  clear hg hz hra H1
  simp only []
  go_wp2_with fail
  refine (awake38 _).mono ?_
  rintro e w3 ⟨rfl, hb⟩
  have I3 := hide (I2.out.keep hb)
  clear hb I2
  simp only []
  generalize w2.heap.size = sb at *
  generalize w1.heap.size = rb at *
  go_wp2_with fail
  refine (I3.out.told lo hi).mono ?_
  rintro e w4 ⟨rfl, h⟩
  have I4 := hide h
  clear h I3
  simp only []
  go_wp2_with fail
  go_loopg [13] 200 (fun gg vi wr => ∃ (i : Nat), i + gg = 200 ∧ vi = .int .i64 i ∧ Hid (FI W b qb pb sb rb i wr))
  case atStart => exact ⟨0, by omega, rfl, I4.out⟩
  case round =>
    obtain ⟨i, hig, rfl, hI⟩ := hrel
    by_cases hlt : i < len
    · by_cases h200 : i < 200
      · obtain ⟨ba, off, ⟨kind, x, e, bits, fault, j⟩, rfl, hba, hwf, hc⟩ := HR.out i hlt
        have hbel := hI.out.bel
        have kc : ∀ (k : Nat) (v : Value), k < 11 → (Op27.l ⟨kind, x, e, bits, fault, j⟩)[k]? = some v → wr.cell? ⟨ba, off + i * 11 + k, none⟩ = some v := fun k v hk hv => (hbel.cell (p := ⟨ba, off + i * 11 + k, none⟩) hba).trans ((hc k hk).trans hv)
        have c0 : wr.cell? ⟨ba, off + i * 11, none⟩ = some (.int .i64 kind) := kc 0 _ (by omega) rfl
        have c1 := kc 1 _ (by omega) rfl
        have c2 := kc 2 _ (by omega) rfl
        have c3 := kc 3 _ (by omega) rfl
        have c4 := kc 4 _ (by omega) rfl
        have c5 := kc 5 _ (by omega) rfl
        have c6 := kc 6 _ (by omega) rfl
        have c7 := kc 7 _ (by omega) rfl
        have c8 := kc 8 _ (by omega) rfl
        have c9 := kc 9 _ (by omega) rfl
        have c10 := kc 10 _ (by omega) rfl
        have ST := hide (hI.out.step (by omega) ⟨kind, x, e, bits, fault, j⟩ hwf)
        clear hc hwf hbel kc
        have hii : decide ((i : Int) < (len : Int)) = true := by simp; omega
        have hi3 : decide ((i : Int) < 200) = true := by simp; omega
        go_wp2_with fail
        refine ST.out.mono ?_
        rintro e w5 ⟨rfl, h⟩
        have I5 := hide (FI.told h lo hi)
        clear h ST c0 c1 c2 c3 c4 c5 c6 c7 c8 c9 c10
        simp only []
        go_wp2_with fail
        refine I5.out.mono ?_
        rintro e w6 ⟨rfl, h⟩
        have I6 := hide h
        clear h I5
        simp only []
        go_wp2_with fail
        go_roundg (200 - (i + 1))
        case measure => omega
        case rel => exact ⟨i + 1, by omega, by go_num, I6.out⟩
      · have hii : decide ((i : Int) < (len : Int)) = true := by simp; omega
        have hi3 : decide ((i : Int) < 200) = false := by simp; omega
        go_wp2_with fail
        go_ret
        exact ⟨rfl, hI.out.bel⟩
    · have hii : decide ((i : Int) < (len : Int)) = false := by simp; omega
      go_wp2_with fail
      go_ret
      exact ⟨rfl, hI.out.bel⟩
end Go.Proofs.Ytkjgklpdoomjcaa.Wide

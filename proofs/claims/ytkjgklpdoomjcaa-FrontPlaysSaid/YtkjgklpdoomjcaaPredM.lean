/- The predictor's Learn, by a contract over its state. -/
import Derived.Test.YtkjgklpdoomjcaaPredL
import Derived.Test.YtkjgklpdoomjcaaPredG
import Derived.Deep.DeepCutAuto
import Derived.Deep.RegionWith
namespace Go.Proofs.Ytkjgklpdoomjcaa
open Go.RowKit

/-- Cell i of a jump. -/
def J.c (j : J) : Nat → Value
  | 0 => .int .u64 j.pc
  | 1 => .bool j.call
  | 2 => .bool j.ret
  | 3 => .bool j.cond
  | 4 => .bool j.taken
  | _ => .int .u64 j.target
theorem J.box (j : J) (w : World) : CellsAt (w.alloc (.cells #[.int .u64 j.pc, .bool j.call, .bool j.ret, .bool j.cond, .bool j.taken, .int .u64 j.target] 44)) w.heap.size 6 j.c :=
  CellsAt.new w _ 44 6 j.c (by omega) fun o ho => by
    rcases (by omega : o = 0 ∨ o = 1 ∨ o = 2 ∨ o = 3 ∨ o = 4 ∨ o = 5) with rfl | rfl | rfl | rfl | rfl | rfl <;> rfl
theorem J.six {j : J} {w : World} {b : Nat} (h : CellsAt w b 6 j.c) : w.cell? ⟨b, 0, none⟩ = some (.int .u64 j.pc) ∧ w.cell? ⟨b, 1, none⟩ = some (.bool j.call) ∧ w.cell? ⟨b, 2, none⟩ = some (.bool j.ret) ∧ w.cell? ⟨b, 3, none⟩ = some (.bool j.cond) ∧ w.cell? ⟨b, 4, none⟩ = some (.bool j.taken) ∧ w.cell? ⟨b, 5, none⟩ = some (.int .u64 j.target) :=
  ⟨h.cell 0 (by omega), h.cell 1 (by omega), h.cell 2 (by omega), h.cell 3 (by omega), h.cell 4 (by omega), h.cell 5 (by omega)⟩

def P.cond (p : P) (j : J) : P := if j.cond = true then p.learned j else p
def P.popped (p : P) (j : J) : P := if j.ret = true ∧ 0 < p.n then { p with n := p.n - 1 } else p
def P.called (p : P) (j : J) : P := if j.call = true then p.pushed (np j.pc) else p
def P.aimed (p : P) (j : J) : P := if j.taken = true then { p with tg := fun i => if i = tix j.pc then ⟨true, j⟩ else p.tg i } else p
/-- What Learn leaves. -/
def P.learn (p : P) (j : J) : P := (((p.cond j).popped j).called j).aimed j

theorem penc_aim (b : Nat) (p : P) (i : Nat) (hi : i < 16) (j : J) (ht : j.taken = true) (o : Nat) :
    upd (upd (upd (upd (upd (upd (upd (p.enc b) (i * 7) (.bool true)) (i * 7 + 1) (.int .u64 j.pc)) (i * 7 + 2) (.bool j.call)) (i * 7 + 3) (.bool j.ret)) (i * 7 + 4) (.bool j.cond)) (i * 7 + 5) (.bool true)) (i * 7 + 6) (.int .u64 j.target) o =
      ({ p with tg := fun k => if k = i then ⟨true, j⟩ else p.tg k } : P).enc b o := by
  unfold upd P.enc
  simp only []
  by_cases h1 : o < 112
  · rw [if_pos h1, if_pos h1]
    by_cases h : o / 7 = i
    · rw [if_pos h]
      rcases (by omega : o % 7 = 0 ∨ o % 7 = 1 ∨ o % 7 = 2 ∨ o % 7 = 3 ∨ o % 7 = 4 ∨ o % 7 = 5 ∨ o % 7 = 6) with e | e | e | e | e | e | e
      · rw [if_neg (by omega), if_neg (by omega), if_neg (by omega), if_neg (by omega), if_neg (by omega), if_neg (by omega), if_pos (by omega), e]; rfl
      · rw [if_neg (by omega), if_neg (by omega), if_neg (by omega), if_neg (by omega), if_neg (by omega), if_pos (by omega), e]; rfl
      · rw [if_neg (by omega), if_neg (by omega), if_neg (by omega), if_neg (by omega), if_pos (by omega), e]; rfl
      · rw [if_neg (by omega), if_neg (by omega), if_neg (by omega), if_pos (by omega), e]; rfl
      · rw [if_neg (by omega), if_neg (by omega), if_pos (by omega), e]; rfl
      · rw [if_neg (by omega), if_pos (by omega), e]; show _ = Value.bool j.taken; rw [ht]
      · rw [if_pos (by omega), e]; rfl
    · rw [if_neg (by omega), if_neg (by omega), if_neg (by omega), if_neg (by omega), if_neg (by omega), if_neg (by omega), if_neg (by omega), if_neg h]
  · rw [if_neg (by omega), if_neg (by omega), if_neg (by omega), if_neg (by omega), if_neg (by omega), if_neg (by omega), if_neg (by omega), if_neg h1, if_neg h1]
theorem PAt.setT {w : World} {b : Nat} {p : P} (h : PAt w b p) (i : Nat) (hi : i < 16) (j : J) (ht : j.taken = true) :
    PAt (((((((w.setCell ⟨b, i * 7, none⟩ (.bool true)).setCell ⟨b, i * 7 + 1, none⟩ (.int .u64 j.pc)).setCell ⟨b, i * 7 + 2, none⟩ (.bool j.call)).setCell ⟨b, i * 7 + 3, none⟩ (.bool j.ret)).setCell ⟨b, i * 7 + 4, none⟩ (.bool j.cond)).setCell ⟨b, i * 7 + 5, none⟩ (.bool true)).setCell ⟨b, i * 7 + 6, none⟩ (.int .u64 j.target)) b { p with tg := fun k => if k = i then ⟨true, j⟩ else p.tg k } :=
  ⟨(((((((h.cells.set _ _).set _ _).set _ _).set _ _).set _ _).set _ _).set _ _).congr fun o _ => penc_aim b p i hi j ht o, h.hist, h.n, h.ct⟩

/-- In the middle of Learn: the state, the variable j, nothing else turned. -/
structure Mid (b : Nat) (w : World) (j : J) (p : P) (wc : World) : Prop where
  only : w.grownBy wc (some b)
  at_ : PAt wc b p
  box : CellsAt wc w.heap.size 6 j.c

set_option maxRecDepth 100000 in
set_option maxHeartbeats 1600000 in
theorem Learn_any (b : Nat) (j : J) (w : World) (p : P) (hp : PAt w b p) (h0 : 0 ≤ j.pc) (h1 : j.pc < 18446744073709551616) :
    Calls Try.prog 27 #[.pointer (some ⟨b, 0, none⟩), .agg #[.int .u64 j.pc, .bool j.call, .bool j.ret, .bool j.cond, .bool j.taken, .int .u64 j.target]] w (PP b w (p.learn j)) := by
  have hlt := hp.lt
  have LE := hide (show p.learn j = (((p.cond j).popped j).called j).aimed j from rfl)
  have M0 := hide (show Mid b w j p (w.alloc (.cells #[.int .u64 j.pc, .bool j.call, .bool j.ret, .bool j.cond, .bool j.taken, .int .u64 j.target] 44)) from ⟨only_alloc (World.grownBy.refl _ _) _, hp.alloc _, j.box w⟩)
  clear hp
  go_enter Try.func27, Try.ntmps27
  go_upto_if 8 with (fail)
  generalize Value.agg #[.int .u64 j.pc, .bool j.call, .bool j.ret, .bool j.cond, .bool j.taken, .int .u64 j.target] = V
  generalize w.alloc _ = w0 at M0 ⊢
  go_cut [] (fun wc => Hid (Mid b w j (p.cond j) wc))
  case first =>
    obtain ⟨c0, c1, c2, c3, c4, c5⟩ := J.six M0.out.box
    cases hc : j.cond
    · have E := hide (show p.cond j = p by unfold P.cond; rw [hc]; rfl)
      clear c0 c1 c2 c3 c4 c5 hc
      go_wp2_with fail
      go_meet
      rw [E.out]
      exact M0
    · have E := hide (show p.cond j = p.learned j by unfold P.cond; rw [hc]; rfl)
      rw [hc] at c3
      have L := learn_any b j w0 p M0.out.at_ h0 h1
      rw [hc] at L
      have LL := hide L
      clear hc L
      go_wp2_with fail
      refine LL.out.mono ?_
      rintro e w1 ⟨rfl, hg, hp1⟩
      have M1 := hide (show Mid b w j (p.cond j) w1 from E.out ▸ ⟨only_trans M0.out.only hg, hp1, M0.out.box.grown hg (by simp; omega)⟩)
      simp only []
      clear hg hp1
      go_wp2_with fail
      go_meet
      exact M1
  case rest =>
    have M1 := hcut
    generalize p.cond j = p1 at M1 LE ⊢
    clear M0 hcut
    obtain ⟨c0, c1, c2, c3, c4, c5⟩ := J.six M1.out.box
    have c181 := M1.out.at_.c181
    have f := M1.out.at_.cells.free
    have hn := M1.out.at_.n
    have hlt1 := M1.out.at_.lt
    have hz1 := M1.out.box.lt
    have hne := Nat.ne_of_lt hlt
    go_upto_region 5 with (fail)
    go_cut [22] (fun s wd => s = .bool (j.ret && decide (0 < p1.n)) ∧ wd = wc)
    case first =>
      by_cases hp0 : 0 < p1.n
      · have d : decide (0 < p1.n) = true := by simpa using hp0
        cases hr : j.ret
        · have HX := hide (show (j.ret && decide (0 < p1.n)) = false by rw [hr, d]; rfl)
          rw [hr] at c2
          clear hr
          go_wp2_with fail
          go_meet
          exact ⟨by rw [HX.out], rfl⟩
        · have HX := hide (show (j.ret && decide (0 < p1.n)) = true by rw [hr, d]; rfl)
          rw [hr] at c2
          clear hr
          go_wp2_with fail
          go_meet
          exact ⟨by rw [HX.out], rfl⟩
      · have d : decide (0 < p1.n) = false := by simpa using hp0
        cases hr : j.ret
        · have HX := hide (show (j.ret && decide (0 < p1.n)) = false by rw [hr, d]; rfl)
          rw [hr] at c2
          clear hr
          go_wp2_with fail
          go_meet
          exact ⟨by rw [HX.out], rfl⟩
        · have HX := hide (show (j.ret && decide (0 < p1.n)) = false by rw [hr, d]; rfl)
          rw [hr] at c2
          clear hr
          go_wp2_with fail
          go_meet
          exact ⟨by rw [HX.out], rfl⟩
    case rest =>
      obtain ⟨rfl, rfl⟩ := hcut
      go_upto_if 22 with (fail)
      go_cut [] (fun wd => Hid (Mid b w j (p1.popped j) wd))
      case first =>
        by_cases hp0 : j.ret = true ∧ 0 < p1.n
        · have E := hide (show p1.popped j = { p1 with n := p1.n - 1 } by unfold P.popped; rw [if_pos hp0])
          have d : (j.ret && decide (0 < p1.n)) = true := by rw [hp0.1]; simpa using hp0.2
          have hp1 := hp0.2
          rw [d]
          clear d hp0
          have hi : IntKind.i64.wrap ((p1.n : Int) - 1) = (p1.n : Int) - 1 := IntWalk.i64_in _ (by omega)
          have ht : ((p1.n : Int) - 1).toNat = p1.n - 1 := by omega
          go_wp2_with fail
          go_meet
          rw [E.out]
          refine ⟨?_, ?_, ?_⟩
          · have g := M1.out.only
            refine only_trans g ?_
            repeat (first | (with_reducible exact World.grownBy.refl _ _) | (with_reducible refine only_setCell ?_ (.inl rfl) _) | (with_reducible refine only_drewN ?_ _) | (with_reducible refine only_drew ?_) | (with_reducible refine only_alloc ?_ _))
          · exact M1.out.at_.setN _ (by omega)
          · exact M1.out.box.other _ (Ne.symm hne) _
        · have E := hide (show p1.popped j = p1 by unfold P.popped; rw [if_neg hp0])
          have d : (j.ret && decide (0 < p1.n)) = false := by
            cases hr : j.ret
            · rfl
            · simp [hr] at hp0; simp [hp0]
          rw [d]
          clear d hp0
          go_wp2_with fail
          go_meet
          rw [E.out]
          exact M1
      case rest =>
        have M2 := hcut
        generalize p1.popped j = p2 at M2 LE ⊢
        clear M1 hcut c0 c1 c2 c3 c4 c5 c181 f hn
        obtain ⟨c0, c1, c2, c3, c4, c5⟩ := J.six M2.out.box
        go_upto_if 34 with (fail)
        go_cut [] (fun wd => Hid (Mid b w j (p2.called j) wd))
        case first =>
          cases hc : j.call
          · have E := hide (show p2.called j = p2 by unfold P.called; rw [hc]; rfl)
            clear c0 c1 c2 c3 c4 c5 hc
            go_wp2_with fail
            go_meet
            rw [E.out]
            exact M2
          · have E := hide (show p2.called j = p2.pushed (np j.pc) by unfold P.called; rw [hc]; rfl)
            rw [hc] at c1
            have LL := hide (push_any b (np j.pc) _ p2 M2.out.at_)
            clear hc
            go_wp2_with fail
            refine LL.out.mono ?_
            rintro e w1 ⟨rfl, hg, hp1⟩
            have M1 := hide (show Mid b w j (p2.called j) w1 from E.out ▸ ⟨only_trans M2.out.only hg, hp1, M2.out.box.grown hg (by simp; omega)⟩)
            simp only []
            clear hg hp1
            go_wp2_with fail
            go_meet
            exact M1
        case rest =>
          have M3 := hcut
          generalize p2.called j = p3 at M3 LE ⊢
          clear M2 hcut c0 c1 c2 c3 c4 c5
          obtain ⟨c0, c1, c2, c3, c4, c5⟩ := J.six M3.out.box
          cases hc : j.taken
          · have E := hide (show p3.aimed j = p3 by unfold P.aimed; rw [hc]; rfl)
            rw [hc] at c4
            clear hc
            go_wp2_with fail
            go_end0
            rw [LE.out, E.out]
            exact ⟨rfl, M3.out.only, M3.out.at_⟩
          · have E := hide (show p3.aimed j = { p3 with tg := fun i => if i = tix j.pc then ⟨true, j⟩ else p3.tg i } by unfold P.aimed; rw [hc]; rfl)
            have TJ := hide hc
            rw [hc] at c4
            have TG := hide fun (W : World) => target_any b j.pc W h0 h1
            have ht := tix_lt j.pc
            have t0 := M3.out.at_.target (tix j.pc) ht 0 (by omega)
            have t1 := M3.out.at_.target (tix j.pc) ht 1 (by omega)
            have t2 := M3.out.at_.target (tix j.pc) ht 2 (by omega)
            have t3 := M3.out.at_.target (tix j.pc) ht 3 (by omega)
            have t4 := M3.out.at_.target (tix j.pc) ht 4 (by omega)
            have t5 := M3.out.at_.target (tix j.pc) ht 5 (by omega)
            have t6 := M3.out.at_.target (tix j.pc) ht 6 (by omega)
            simp only [T.c, Nat.add_zero] at t0 t1 t2 t3 t4 t5 t6
            have f := M3.out.at_.cells.free
            have hlt3 := M3.out.at_.lt
            have hz3 := M3.out.box.lt
            clear hc
            go_wp2_with fail
            go_region_with (go_at_call 51; refine (TG.out _).mono ?_; rintro e w' ⟨rfl, rfl⟩)
            all_goals go_wp2_with fail
            all_goals go_end0
            all_goals rw [LE.out, E.out]
            all_goals refine ⟨rfl, ?_, ?_⟩
            all_goals first
              | (refine only_trans M3.out.only ?_; (repeat (first | (with_reducible exact World.grownBy.refl _ _) | (with_reducible refine only_setCell ?_ (.inl rfl) _) | (with_reducible refine only_drewN ?_ _) | (with_reducible refine only_drew ?_) | (with_reducible refine only_alloc ?_ _))); done)
              | (with_reducible exact (M3.out.at_.setT (tix j.pc) ht j TJ.out).drew)
end Go.Proofs.Ytkjgklpdoomjcaa

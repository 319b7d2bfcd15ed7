/- The predictor's Guess, by a contract over its state. -/
import Derived.Test.YtkjgklpdoomjcaaPred
namespace Go.Proofs.Ytkjgklpdoomjcaa
open Go.RowKit

/-- The place behind. -/
def np (pc : Int) : Int := IntKind.u64.wrap (pc + 4)

/-- What is guessed, of the place in the table, the stack's length and top, the counter. -/
def guessOf (t : T) (pc : Int) (n : Nat) (top : Int) (c : Nat) : Bool × Int :=
  if t.on = false ∨ t.j.pc ≠ pc then (false, np pc)
  else if t.j.ret = true ∧ 0 < n then (true, top)
  else if t.j.cond = true ∧ t.j.ret = false ∧ c < 2 then (false, np pc)
  else (true, t.j.target)
def P.guess (p : P) (pc : Int) : Bool × Int := guessOf (p.tg (tix pc)) pc p.n (p.ring (p.n - 1)) (p.ct (cix pc p.hist))

def GP (b : Nat) (w : World) (p : P) (g : Bool × Int) (e : Ending) (w' : World) : Prop := e = .returned (.agg #[.bool g.1, .int .u64 g.2]) ∧ w.grownBy w' none ∧ PAt w' b p

set_option maxRecDepth 100000 in
set_option maxHeartbeats 1600000 in
theorem guess_any (b : Nat) (pc : Int) (w : World) (p : P) (hp : PAt w b p) (h0 : 0 ≤ pc) (h1 : pc < 18446744073709551616) :
    Calls Try.prog 28 #[.pointer (some ⟨b, 0, none⟩), .int .u64 pc] w (GP b w p (p.guess pc)) := by
  have hlt := hp.lt
  have hn := hp.n
  have TG := hide fun (W : World) => target_any b pc W h0 h1
  have CT := hide fun (W : World) (h : PAt W b p) => counter_any b pc W p h h0 h1
  have c181 := hp.c181
  have ht := tix_lt pc
  have cc := hp.counter (cix pc p.hist) (cix_lt _ _)
  have t0 := hp.target (tix pc) ht 0 (by omega)
  have t1 := hp.target (tix pc) ht 1 (by omega)
  have t3 := hp.target (tix pc) ht 3 (by omega)
  have t4 := hp.target (tix pc) ht 4 (by omega)
  have t6 := hp.target (tix pc) ht 6 (by omega)
  have HP := hide hp
  rcases htg : p.tg (tix pc) with ⟨on, tpc, call, ret, cond, taken, tgt⟩
  have HG := hide (show p.guess pc = guessOf ⟨on, tpc, call, ret, cond, taken, tgt⟩ pc p.n (p.ring (p.n - 1)) (p.ct (cix pc p.hist)) by unfold P.guess; rw [htg])
  rw [htg] at t0 t1 t3 t4 t6
  simp only [T.c, Nat.add_zero] at t0 t1 t3 t4 t6
  clear hp htg ht
  rw [HG.out]
  cases on
  · have e : guessOf ⟨false, tpc, call, ret, cond, taken, tgt⟩ pc p.n (p.ring (p.n - 1)) (p.ct (cix pc p.hist)) = (false, np pc) := by simp [guessOf]
    rw [e]
    clear e HG
    go_enter Try.func28, Try.ntmps28
    go_wp2_with (go_at_call 51; refine (TG.out _).mono ?_; rintro e w' ⟨rfl, rfl⟩)
    go_returns
    refine ⟨rfl, HP.out.and ?_⟩
    repeat (first | (with_reducible exact World.grownBy.refl _ _) | (with_reducible refine only_setCell ?_ (.inr (by simp)) _) | (with_reducible refine only_drewN ?_ _) | (with_reducible refine only_drew ?_) | (with_reducible refine only_alloc ?_ _))
  · by_cases hpc : tpc = pc
    · subst hpc
      by_cases hn0 : 0 < p.n
      · have st := HP.out.stack (p.n - 1) (by omega)
        have hn1 : ((p.n : Int) - 1).toNat = p.n - 1 := by omega
        cases ret
        · cases cond
          · have e : guessOf ⟨true, tpc, call, false, false, taken, tgt⟩ tpc p.n (p.ring (p.n - 1)) (p.ct (cix tpc p.hist)) = (true, tgt) := by simp [guessOf]
            rw [e]
            clear e HG
            go_enter Try.func28, Try.ntmps28
            go_wp2_with (first | (go_at_call 51; refine (TG.out _).mono ?_; rintro e w' ⟨rfl, rfl⟩) | (go_at_call 52; refine (CT.out _ ((HP.out.alloc _).alloc _)).mono ?_; rintro e w' ⟨rfl, k, rfl⟩))
            go_returns
            refine ⟨rfl, HP.out.and ?_⟩
            repeat (first | (with_reducible exact World.grownBy.refl _ _) | (with_reducible refine only_setCell ?_ (.inr (by simp)) _) | (with_reducible refine only_drewN ?_ _) | (with_reducible refine only_drew ?_) | (with_reducible refine only_alloc ?_ _))
          · by_cases hc : p.ct (cix tpc p.hist) < 2
            · have e : guessOf ⟨true, tpc, call, false, true, taken, tgt⟩ tpc p.n (p.ring (p.n - 1)) (p.ct (cix tpc p.hist)) = (false, np tpc) := by simp [guessOf, hc]
              rw [e]
              clear e HG
              go_enter Try.func28, Try.ntmps28
              go_wp2_with (first | (go_at_call 51; refine (TG.out _).mono ?_; rintro e w' ⟨rfl, rfl⟩) | (go_at_call 52; refine (CT.out _ ((HP.out.alloc _).alloc _)).mono ?_; rintro e w' ⟨rfl, k, rfl⟩))
              go_returns
              refine ⟨rfl, HP.out.and ?_⟩
              repeat (first | (with_reducible exact World.grownBy.refl _ _) | (with_reducible refine only_setCell ?_ (.inr (by simp)) _) | (with_reducible refine only_drewN ?_ _) | (with_reducible refine only_drew ?_) | (with_reducible refine only_alloc ?_ _))
            · have e : guessOf ⟨true, tpc, call, false, true, taken, tgt⟩ tpc p.n (p.ring (p.n - 1)) (p.ct (cix tpc p.hist)) = (true, tgt) := by simp [guessOf, hc]
              rw [e]
              clear e HG
              go_enter Try.func28, Try.ntmps28
              go_wp2_with (first | (go_at_call 51; refine (TG.out _).mono ?_; rintro e w' ⟨rfl, rfl⟩) | (go_at_call 52; refine (CT.out _ ((HP.out.alloc _).alloc _)).mono ?_; rintro e w' ⟨rfl, k, rfl⟩))
              go_returns
              refine ⟨rfl, HP.out.and ?_⟩
              repeat (first | (with_reducible exact World.grownBy.refl _ _) | (with_reducible refine only_setCell ?_ (.inr (by simp)) _) | (with_reducible refine only_drewN ?_ _) | (with_reducible refine only_drew ?_) | (with_reducible refine only_alloc ?_ _))
        · have e : guessOf ⟨true, tpc, call, true, cond, taken, tgt⟩ tpc p.n (p.ring (p.n - 1)) (p.ct (cix tpc p.hist)) = (true, p.ring (p.n - 1)) := by simp [guessOf, hn0]
          rw [e]
          clear e HG
          go_enter Try.func28, Try.ntmps28
          go_wp2_with (first | (go_at_call 51; refine (TG.out _).mono ?_; rintro e w' ⟨rfl, rfl⟩) | (go_at_call 52; refine (CT.out _ ((HP.out.alloc _).alloc _)).mono ?_; rintro e w' ⟨rfl, k, rfl⟩))
          go_returns
          refine ⟨rfl, HP.out.and ?_⟩
          repeat (first | (with_reducible exact World.grownBy.refl _ _) | (with_reducible refine only_setCell ?_ (.inr (by simp)) _) | (with_reducible refine only_drewN ?_ _) | (with_reducible refine only_drew ?_) | (with_reducible refine only_alloc ?_ _))
      · have hn2 : p.n = 0 := by omega
        rw [hn2] at c181
        clear hn2
        cases ret
        · cases cond
          · have e : guessOf ⟨true, tpc, call, false, false, taken, tgt⟩ tpc p.n (p.ring (p.n - 1)) (p.ct (cix tpc p.hist)) = (true, tgt) := by simp [guessOf]
            rw [e]
            clear e HG
            go_enter Try.func28, Try.ntmps28
            go_wp2_with (first | (go_at_call 51; refine (TG.out _).mono ?_; rintro e w' ⟨rfl, rfl⟩) | (go_at_call 52; refine (CT.out _ ((HP.out.alloc _).alloc _)).mono ?_; rintro e w' ⟨rfl, k, rfl⟩))
            go_returns
            refine ⟨rfl, HP.out.and ?_⟩
            repeat (first | (with_reducible exact World.grownBy.refl _ _) | (with_reducible refine only_setCell ?_ (.inr (by simp)) _) | (with_reducible refine only_drewN ?_ _) | (with_reducible refine only_drew ?_) | (with_reducible refine only_alloc ?_ _))
          · by_cases hc : p.ct (cix tpc p.hist) < 2
            · have e : guessOf ⟨true, tpc, call, false, true, taken, tgt⟩ tpc p.n (p.ring (p.n - 1)) (p.ct (cix tpc p.hist)) = (false, np tpc) := by simp [guessOf, hc]
              rw [e]
              clear e HG
              go_enter Try.func28, Try.ntmps28
              go_wp2_with (first | (go_at_call 51; refine (TG.out _).mono ?_; rintro e w' ⟨rfl, rfl⟩) | (go_at_call 52; refine (CT.out _ ((HP.out.alloc _).alloc _)).mono ?_; rintro e w' ⟨rfl, k, rfl⟩))
              go_returns
              refine ⟨rfl, HP.out.and ?_⟩
              repeat (first | (with_reducible exact World.grownBy.refl _ _) | (with_reducible refine only_setCell ?_ (.inr (by simp)) _) | (with_reducible refine only_drewN ?_ _) | (with_reducible refine only_drew ?_) | (with_reducible refine only_alloc ?_ _))
            · have e : guessOf ⟨true, tpc, call, false, true, taken, tgt⟩ tpc p.n (p.ring (p.n - 1)) (p.ct (cix tpc p.hist)) = (true, tgt) := by simp [guessOf, hc]
              rw [e]
              clear e HG
              go_enter Try.func28, Try.ntmps28
              go_wp2_with (first | (go_at_call 51; refine (TG.out _).mono ?_; rintro e w' ⟨rfl, rfl⟩) | (go_at_call 52; refine (CT.out _ ((HP.out.alloc _).alloc _)).mono ?_; rintro e w' ⟨rfl, k, rfl⟩))
              go_returns
              refine ⟨rfl, HP.out.and ?_⟩
              repeat (first | (with_reducible exact World.grownBy.refl _ _) | (with_reducible refine only_setCell ?_ (.inr (by simp)) _) | (with_reducible refine only_drewN ?_ _) | (with_reducible refine only_drew ?_) | (with_reducible refine only_alloc ?_ _))
        · cases cond
          · have e : guessOf ⟨true, tpc, call, true, false, taken, tgt⟩ tpc p.n (p.ring (p.n - 1)) (p.ct (cix tpc p.hist)) = (true, tgt) := by simp [guessOf, hn0]
            rw [e]
            clear e HG
            go_enter Try.func28, Try.ntmps28
            go_wp2_with (first | (go_at_call 51; refine (TG.out _).mono ?_; rintro e w' ⟨rfl, rfl⟩) | (go_at_call 52; refine (CT.out _ ((HP.out.alloc _).alloc _)).mono ?_; rintro e w' ⟨rfl, k, rfl⟩))
            go_returns
            refine ⟨rfl, HP.out.and ?_⟩
            repeat (first | (with_reducible exact World.grownBy.refl _ _) | (with_reducible refine only_setCell ?_ (.inr (by simp)) _) | (with_reducible refine only_drewN ?_ _) | (with_reducible refine only_drew ?_) | (with_reducible refine only_alloc ?_ _))
          · have e : guessOf ⟨true, tpc, call, true, true, taken, tgt⟩ tpc p.n (p.ring (p.n - 1)) (p.ct (cix tpc p.hist)) = (true, tgt) := by simp [guessOf, hn0]
            rw [e]
            clear e HG
            go_enter Try.func28, Try.ntmps28
            go_wp2_with (first | (go_at_call 51; refine (TG.out _).mono ?_; rintro e w' ⟨rfl, rfl⟩) | (go_at_call 52; refine (CT.out _ ((HP.out.alloc _).alloc _)).mono ?_; rintro e w' ⟨rfl, k, rfl⟩))
            go_returns
            refine ⟨rfl, HP.out.and ?_⟩
            repeat (first | (with_reducible exact World.grownBy.refl _ _) | (with_reducible refine only_setCell ?_ (.inr (by simp)) _) | (with_reducible refine only_drewN ?_ _) | (with_reducible refine only_drew ?_) | (with_reducible refine only_alloc ?_ _))
    · have hb : ((tpc : Int) != pc) = true := bne_iff_ne.2 hpc
      have e : guessOf ⟨true, tpc, call, ret, cond, taken, tgt⟩ pc p.n (p.ring (p.n - 1)) (p.ct (cix pc p.hist)) = (false, np pc) := by simp [guessOf, hpc]
      rw [e]
      clear e HG
      clear hpc
      go_enter Try.func28, Try.ntmps28
      go_wp2_with (first | (go_at_call 51; refine (TG.out _).mono ?_; rintro e w' ⟨rfl, rfl⟩) | (go_at_call 52; refine (CT.out _ ((HP.out.alloc _).alloc _)).mono ?_; rintro e w' ⟨rfl, k, rfl⟩))
      go_returns
      refine ⟨rfl, HP.out.and ?_⟩
      repeat (first | (with_reducible exact World.grownBy.refl _ _) | (with_reducible refine only_setCell ?_ (.inr (by simp)) _) | (with_reducible refine only_drewN ?_ _) | (with_reducible refine only_drew ?_) | (with_reducible refine only_alloc ?_ _))
end Go.Proofs.Ytkjgklpdoomjcaa

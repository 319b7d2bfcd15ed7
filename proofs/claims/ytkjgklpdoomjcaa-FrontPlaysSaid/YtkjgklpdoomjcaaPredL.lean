/- The predictor's learn and push, each by a contract over its state. -/
import Derived.Test.YtkjgklpdoomjcaaPred
namespace Go.Proofs.Ytkjgklpdoomjcaa
open Go.RowKit

theorem info29 : (Try.prog.info? 29).map (·.size) = some 1 := by kernel_rfl
theorem run_copy3 (w : World) (b : Nat) (x0 x1 x2 x3 : Int) (f : ∀ o, w.frozen? ⟨b, o, none⟩ = false)
    (s0 : w.cell? ⟨b, 177, none⟩ = some (.int .u64 x0)) (s1 : w.cell? ⟨b, 178, none⟩ = some (.int .u64 x1)) (s2 : w.cell? ⟨b, 179, none⟩ = some (.int .u64 x2)) (s3 : w.cell? ⟨b, 180, none⟩ = some (.int .u64 x3)) :
    (Builtin.copy_ #[38, 38] 3 #[.slice (some ⟨b, 177, none⟩) 4 4, .slice (some ⟨b, 178, none⟩) 3 3]).run Try.prog w =
      .ok (.int .i64 3) (((w.setCell ⟨b, 177, none⟩ (.int .u64 x1)).setCell ⟨b, 178, none⟩ (.int .u64 x2)).setCell ⟨b, 179, none⟩ (.int .u64 x3)) := by
  have hq' := info29
  cases hq : Try.prog.info? 29 with
  | none => simp [hq] at hq'
  | some i =>
    have hi : i.size = 1 := by simpa [hq] using hq'
    simp [Builtin.copy_, run_underlying Try.underlying38, Builtin.lenOf, Builtin.firstCells, sizeOf, typeInfo, hq, hi, go_sem, f, s0, s1, s2, s3]


theorem penc_ring (b : Nat) (p : P) (k : Nat) (hk : k < 4) (x : Int) (o : Nat) : upd (p.enc b) (177 + k) (.int .u64 x) o = ({ p with ring := fun i => if i = k then x else p.ring i } : P).enc b o := by
  unfold upd P.enc
  simp only []
  by_cases e : o = 177 + k
  · subst e
    rw [if_pos rfl, if_neg (by omega), if_neg (by omega), if_neg (by omega), if_pos (by omega), if_pos (by omega)]
  · rw [if_neg e]
    by_cases h : o < 181
    · by_cases h1 : o < 112
      · rw [if_pos h1, if_pos h1]
      · rw [if_neg h1, if_neg h1]
        by_cases h2 : o < 176
        · rw [if_pos h2, if_pos h2]
        · rw [if_neg h2, if_neg h2]
          by_cases h3 : o = 176
          · rw [if_pos h3, if_pos h3]
          · rw [if_neg h3, if_neg h3, if_pos h, if_pos h, if_neg (by omega)]
    · rw [if_neg (by omega), if_neg (by omega), if_neg (by omega), if_neg h, if_neg (by omega), if_neg (by omega), if_neg (by omega), if_neg h]
theorem PAt.setRing {w : World} {b : Nat} {p : P} (h : PAt w b p) (k : Nat) (hk : k < 4) (x : Int) : PAt (w.setCell ⟨b, 177 + k, none⟩ (.int .u64 x)) b { p with ring := fun i => if i = k then x else p.ring i } :=
  ⟨(h.cells.set _ _).congr fun o _ => penc_ring b p k hk x o, h.hist, h.n, h.ct⟩
theorem PAt.ext {w : World} {b : Nat} {p q : P} (h : PAt w b p) (e1 : q.tg = p.tg) (e2 : q.ct = p.ct) (e3 : q.hist = p.hist) (e4 : q.n = p.n) (e5 : ∀ i, i < 4 → p.ring i = q.ring i) : PAt w b q := by
  refine ⟨h.cells.congr fun o ho => ?_, e3 ▸ h.hist, e4 ▸ h.n, e2 ▸ h.ct⟩
  unfold P.enc
  rw [e1, e2, e3, e4]
  by_cases h1 : o < 112
  · rw [if_pos h1, if_pos h1]
  · rw [if_neg h1, if_neg h1]
    by_cases h2 : o < 176
    · rw [if_pos h2, if_pos h2]
    · rw [if_neg h2, if_neg h2]
      by_cases h3 : o = 176
      · rw [if_pos h3, if_pos h3]
      · rw [if_neg h3, if_neg h3]
        by_cases h4 : o < 181
        · rw [if_pos h4, if_pos h4, e5 (o - 177) (by omega)]
        · rw [if_neg h4, if_neg h4]

/-- A place is put onto the stack. -/
def P.pushed (p : P) (x : Int) : P :=
  { p with ring := fun i => if p.n < 4 then (if i = p.n then x else p.ring i) else (if i = 3 then x else p.ring (i + 1)), n := if p.n < 4 then p.n + 1 else 4 }

def PP (b : Nat) (w : World) (q : P) (e : Ending) (w' : World) : Prop := e = .returned (.tuple #[]) ∧ w.grownBy w' (some b) ∧ PAt w' b q

theorem push_0 (b : Nat) (pc : Int) (w : World) (p : P) (hp : PAt w b p) (hn : p.n = 0) : Calls Try.prog 50 #[.pointer (some ⟨b, 0, none⟩), .int .u64 pc] w (PP b w (p.pushed pc)) := by
  have hlt := hp.lt
  have f := hp.cells.free
  have c181 := hp.c181
  rw [hn] at c181
  have s0 := hp.stack 0 (by omega)
  have HP := hide (And.intro hp hn)
  clear hp hn
  go_enter Try.func50, Try.ntmps50
  go_wp2
  go_end0
  refine ⟨rfl, ?_, ?_⟩
  · repeat (first | (with_reducible exact World.grownBy.refl _ _) | (with_reducible refine only_setCell ?_ (.inl rfl) _) | (with_reducible refine only_drewN ?_ _) | (with_reducible refine only_drew ?_) | (with_reducible refine only_alloc ?_ _))
  · refine ((((HP.out.1.setRing 0 (by omega) pc).setN 1 (by omega))).alloc _).ext rfl rfl rfl ?_ ?_
    · show (if p.n < 4 then p.n + 1 else 4) = 1
      rw [HP.out.2]; rfl
    · intro i hi
      show (if i = 0 then pc else p.ring i) = (if p.n < 4 then (if i = p.n then pc else p.ring i) else (if i = 3 then pc else p.ring (i + 1)))
      rw [HP.out.2]; rfl
theorem push_1 (b : Nat) (pc : Int) (w : World) (p : P) (hp : PAt w b p) (hn : p.n = 1) : Calls Try.prog 50 #[.pointer (some ⟨b, 0, none⟩), .int .u64 pc] w (PP b w (p.pushed pc)) := by
  have hlt := hp.lt
  have f := hp.cells.free
  have c181 := hp.c181
  rw [hn] at c181
  have s1 := hp.stack 1 (by omega)
  have HP := hide (And.intro hp hn)
  clear hp hn
  go_enter Try.func50, Try.ntmps50
  go_wp2
  go_end0
  refine ⟨rfl, ?_, ?_⟩
  · repeat (first | (with_reducible exact World.grownBy.refl _ _) | (with_reducible refine only_setCell ?_ (.inl rfl) _) | (with_reducible refine only_drewN ?_ _) | (with_reducible refine only_drew ?_) | (with_reducible refine only_alloc ?_ _))
  · refine ((((HP.out.1.setRing 1 (by omega) pc).setN 2 (by omega))).alloc _).ext rfl rfl rfl ?_ ?_
    · show (if p.n < 4 then p.n + 1 else 4) = 2
      rw [HP.out.2]; rfl
    · intro i hi
      show (if i = 1 then pc else p.ring i) = (if p.n < 4 then (if i = p.n then pc else p.ring i) else (if i = 3 then pc else p.ring (i + 1)))
      rw [HP.out.2]; rfl
theorem push_2 (b : Nat) (pc : Int) (w : World) (p : P) (hp : PAt w b p) (hn : p.n = 2) : Calls Try.prog 50 #[.pointer (some ⟨b, 0, none⟩), .int .u64 pc] w (PP b w (p.pushed pc)) := by
  have hlt := hp.lt
  have f := hp.cells.free
  have c181 := hp.c181
  rw [hn] at c181
  have s2 := hp.stack 2 (by omega)
  have HP := hide (And.intro hp hn)
  clear hp hn
  go_enter Try.func50, Try.ntmps50
  go_wp2
  go_end0
  refine ⟨rfl, ?_, ?_⟩
  · repeat (first | (with_reducible exact World.grownBy.refl _ _) | (with_reducible refine only_setCell ?_ (.inl rfl) _) | (with_reducible refine only_drewN ?_ _) | (with_reducible refine only_drew ?_) | (with_reducible refine only_alloc ?_ _))
  · refine ((((HP.out.1.setRing 2 (by omega) pc).setN 3 (by omega))).alloc _).ext rfl rfl rfl ?_ ?_
    · show (if p.n < 4 then p.n + 1 else 4) = 3
      rw [HP.out.2]; rfl
    · intro i hi
      show (if i = 2 then pc else p.ring i) = (if p.n < 4 then (if i = p.n then pc else p.ring i) else (if i = 3 then pc else p.ring (i + 1)))
      rw [HP.out.2]; rfl
theorem push_3 (b : Nat) (pc : Int) (w : World) (p : P) (hp : PAt w b p) (hn : p.n = 3) : Calls Try.prog 50 #[.pointer (some ⟨b, 0, none⟩), .int .u64 pc] w (PP b w (p.pushed pc)) := by
  have hlt := hp.lt
  have f := hp.cells.free
  have c181 := hp.c181
  rw [hn] at c181
  have s3 := hp.stack 3 (by omega)
  have HP := hide (And.intro hp hn)
  clear hp hn
  go_enter Try.func50, Try.ntmps50
  go_wp2
  go_end0
  refine ⟨rfl, ?_, ?_⟩
  · repeat (first | (with_reducible exact World.grownBy.refl _ _) | (with_reducible refine only_setCell ?_ (.inl rfl) _) | (with_reducible refine only_drewN ?_ _) | (with_reducible refine only_drew ?_) | (with_reducible refine only_alloc ?_ _))
  · refine ((((HP.out.1.setRing 3 (by omega) pc).setN 4 (by omega))).alloc _).ext rfl rfl rfl ?_ ?_
    · show (if p.n < 4 then p.n + 1 else 4) = 4
      rw [HP.out.2]; rfl
    · intro i hi
      show (if i = 3 then pc else p.ring i) = (if p.n < 4 then (if i = p.n then pc else p.ring i) else (if i = 3 then pc else p.ring (i + 1)))
      rw [HP.out.2]; rfl
theorem push_4 (b : Nat) (pc : Int) (w : World) (p : P) (hp : PAt w b p) (hn : p.n = 4) : Calls Try.prog 50 #[.pointer (some ⟨b, 0, none⟩), .int .u64 pc] w (PP b w (p.pushed pc)) := by
  have hlt := hp.lt
  have f := hp.cells.free
  have c181 := hp.c181
  rw [hn] at c181
  have s0 := hp.stack 0 (by omega)
  have s1 := hp.stack 1 (by omega)
  have s2 := hp.stack 2 (by omega)
  have s3 := hp.stack 3 (by omega)
  have HP := hide (And.intro hp hn)
  have CP := run_copy3 w.drew b _ _ _ _ f s0 s1 s2 s3
  clear hp hn
  go_enter Try.func50, Try.ntmps50
  go_wp2
  go_region
  go_wp2
  go_end0
  refine ⟨rfl, ?_, ?_⟩
  · repeat (first | (with_reducible exact World.grownBy.refl _ _) | (with_reducible refine only_setCell ?_ (.inl rfl) _) | (with_reducible refine only_drewN ?_ _) | (with_reducible refine only_drew ?_) | (with_reducible refine only_alloc ?_ _))
  · refine ((((((((HP.out.1.setRing 0 (by omega) _).setRing 1 (by omega) _).setRing 2 (by omega) _).setN 3 (by omega)).setRing 3 (by omega) pc).setN 4 (by omega)).alloc _).drew).ext rfl rfl rfl ?_ ?_
    · show (if p.n < 4 then p.n + 1 else 4) = 4
      rw [HP.out.2]; rfl
    · intro i hi
      show (if i = 3 then pc else if i = 2 then p.ring 3 else if i = 1 then p.ring 2 else if i = 0 then p.ring 1 else p.ring i) = (if p.n < 4 then (if i = p.n then pc else p.ring i) else (if i = 3 then pc else p.ring (i + 1)))
      rw [HP.out.2]
      rcases (by omega : i = 0 ∨ i = 1 ∨ i = 2 ∨ i = 3) with rfl | rfl | rfl | rfl <;> rfl

theorem push_any (b : Nat) (pc : Int) (w : World) (p : P) (hp : PAt w b p) : Calls Try.prog 50 #[.pointer (some ⟨b, 0, none⟩), .int .u64 pc] w (PP b w (p.pushed pc)) := by
  have hn := hp.n
  rcases (by omega : p.n = 0 ∨ p.n = 1 ∨ p.n = 2 ∨ p.n = 3 ∨ p.n = 4) with h | h | h | h | h
  · exact push_0 b pc w p hp h
  · exact push_1 b pc w p hp h
  · exact push_2 b pc w p hp h
  · exact push_3 b pc w p hp h
  · exact push_4 b pc w p hp h

/-! ### learn -/
theorem penc_learn (b : Nat) (p : P) (k : Nat) (hk : k < 64) (c h : Nat) (o : Nat) : upd (upd (p.enc b) (112 + k) (.int .i64 c)) 176 (.int .i64 h) o = ({ p with ct := fun i => if i = k then c else p.ct i, hist := h } : P).enc b o := by
  unfold upd P.enc
  simp only []
  by_cases e : o = 176
  · subst e
    rw [if_pos rfl, if_neg (by omega), if_neg (by omega), if_pos rfl]
  · rw [if_neg e]
    by_cases e' : o = 112 + k
    · subst e'
      rw [if_pos rfl, if_neg (by omega), if_pos (by omega), if_pos (by omega)]
    · rw [if_neg e']
      by_cases h1 : o < 112
      · rw [if_pos h1, if_pos h1]
      · rw [if_neg h1, if_neg h1]
        by_cases h2 : o < 176
        · rw [if_pos h2, if_pos h2, if_neg (by omega)]
        · rw [if_neg h2, if_neg h2, if_neg e, if_neg e]
theorem PAt.setLearn {w : World} {b : Nat} {p : P} (hp : PAt w b p) (k : Nat) (hk : k < 64) (c h : Nat) (hc : c ≤ 3) (hh : h < 64) :
    PAt ((w.setCell ⟨b, 112 + k, none⟩ (.int .i64 c)).setCell ⟨b, 176, none⟩ (.int .i64 h)) b { p with ct := fun i => if i = k then c else p.ct i, hist := h } :=
  ⟨((hp.cells.set _ _).set _ _).congr fun o _ => penc_learn b p k hk c h o, hh, hp.n, fun i => by
    show (if i = k then c else p.ct i) ≤ 3
    split
    · exact hc
    · exact hp.ct i⟩

theorem PAt.setLearnI {w : World} {b : Nat} {p : P} (hp : PAt w b p) (k : Nat) (hk : k < 64) (c h : Nat) (x y : Int) (hx : x = c) (hy : y = h) (hc : c ≤ 3) (hh : h < 64) :
    PAt ((w.setCell ⟨b, 112 + k, none⟩ (.int .i64 x)).setCell ⟨b, 176, none⟩ (.int .i64 y)) b { p with ct := fun i => if i = k then c else p.ct i, hist := h } := by
  subst hx hy
  exact hp.setLearn k hk c h hc hh

/-- What a conditional jump leaves. -/
def P.learned (p : P) (j : J) : P :=
  { p with ct := fun i => if i = cix j.pc p.hist then (if j.taken then min 3 (p.ct (cix j.pc p.hist) + 1) else p.ct (cix j.pc p.hist) - 1) else p.ct i, hist := (2 * p.hist + if j.taken then 1 else 0) % 64 }

theorem or_one (h : Nat) (hh : h < 64) : bits BinOp.or IntKind.i64 ((h : Int) * 2) 1 = (h : Int) * 2 + 1 := by
  have e : ∀ h, h < 64 → (h * 2 ||| 1) = h * 2 + 1 := by decide
  have := or_nat (h * 2) 1 (by omega) (by omega)
  rw [e h hh] at this
  simpa using this
theorem or_zero (h : Nat) (hh : h < 64) : bits BinOp.or IntKind.i64 ((h : Int) * 2) 0 = (h : Int) * 2 := by
  have := or_nat (h * 2) 0 (by omega) (by omega)
  simpa using this

set_option maxRecDepth 100000 in
set_option maxHeartbeats 800000 in
theorem learn_any (b : Nat) (j : J) (w : World) (p : P) (hp : PAt w b p) (h0 : 0 ≤ j.pc) (h1 : j.pc < 18446744073709551616) :
    Calls Try.prog 49 #[.pointer (some ⟨b, 0, none⟩), .agg #[.int .u64 j.pc, .bool j.call, .bool j.ret, .bool j.cond, .bool j.taken, .int .u64 j.target]] w (PP b w (p.learned j)) := by
  have hlt := hp.lt
  have f := hp.cells.free
  have CT := hide fun (W : World) (h : PAt W b p) => counter_any b j.pc W p h h0 h1
  have cc := hp.counter (cix j.pc p.hist) (cix_lt _ _)
  have c176 := hp.c176
  have hh := hp.hist
  have hk := cix_lt j.pc p.hist
  have hc := hp.ct (cix j.pc p.hist)
  have HP := hide hp
  clear hp
  cases ht : j.taken
  · have E := hide (show p.learned j = { p with ct := fun i => if i = cix j.pc p.hist then p.ct (cix j.pc p.hist) - 1 else p.ct i, hist := 2 * p.hist % 64 } by unfold P.learned; rw [ht]; rfl)
    have hor := or_zero p.hist hh
    clear ht
    go_enter Try.func49, Try.ntmps49
    go_wp2_with (go_at_call 52; refine (CT.out _ (HP.out.alloc _)).mono ?_; rintro e w' ⟨rfl, k, rfl⟩)
    all_goals go_end0
    all_goals refine ⟨rfl, ?_, ?_⟩
    all_goals first
      | ((repeat (first | (with_reducible exact World.grownBy.refl _ _) | (with_reducible refine only_setCell ?_ (.inl rfl) _) | (with_reducible refine only_drewN ?_ _) | (with_reducible refine only_drew ?_) | (with_reducible refine only_alloc ?_ _))); done)
      | (rw [E.out]; refine ((HP.out.alloc _).drewN _).setLearnI (cix j.pc p.hist) hk _ _ _ _ ?_ ?_ ?_ ?_ <;> omega)
  · have E := hide (show p.learned j = { p with ct := fun i => if i = cix j.pc p.hist then min 3 (p.ct (cix j.pc p.hist) + 1) else p.ct i, hist := (2 * p.hist + 1) % 64 } by unfold P.learned; rw [ht]; rfl)
    have hor := or_one p.hist hh
    clear ht
    go_enter Try.func49, Try.ntmps49
    go_wp2_with (go_at_call 52; refine (CT.out _ (HP.out.alloc _)).mono ?_; rintro e w' ⟨rfl, k, rfl⟩)
    all_goals go_end0
    all_goals refine ⟨rfl, ?_, ?_⟩
    all_goals first
      | ((repeat (first | (with_reducible exact World.grownBy.refl _ _) | (with_reducible refine only_setCell ?_ (.inl rfl) _) | (with_reducible refine only_drewN ?_ _) | (with_reducible refine only_drew ?_) | (with_reducible refine only_alloc ?_ _))); done)
      | (rw [E.out]; refine ((HP.out.alloc _).drewN _).setLearnI (cix j.pc p.hist) hk _ _ _ _ ?_ ?_ ?_ ?_ <;> omega)
end Go.Proofs.Ytkjgklpdoomjcaa

/- The document's predictor (tappetref21), by contracts over the same state: where its aims, counters, history and stack lie; place, New, Guess. -/
import Derived.Test.YtkjgklpdoomjcaaPredA
import Derived.Test.YtkjgklpdoomjcaaPredN
import Derived.Test.YtkjgklpdoomjcaaRowB
namespace Go.Proofs.Ytkjgklpdoomjcaa
open Go.RowKit
set_option linter.unusedVariables false
set_option linter.unusedSimpArgs false

/-- Cell i of an aim. -/
def T.ac (t : T) : Nat → Value
  | 0 => .bool t.on
  | 1 => .int .u64 t.j.pc
  | 2 => .int .u64 t.j.target
  | 3 => .bool t.j.call
  | 4 => .bool t.j.ret
  | _ => .bool t.j.cond
def P.renc (p : P) (sv : Value) (o : Nat) : Value :=
  if o < 96 then (p.tg (o / 6)).ac (o % 6) else if o < 160 then .int .i64 (p.ct (o - 96)) else if o = 160 then .int .i64 p.hist else sv
/-- The stack, the top last. -/
def P.sc (p : P) : List Value := (List.range p.n).map fun i => .int .u64 (p.ring i)
/-- In block b lies the document's predictor, of state p; its stack is '.slice a _ cap'. -/
structure RAt (w : World) (b : Nat) (a : Option Addr) (cap : Nat) (p : P) : Prop where
  cells : CellsAt w b 162 (p.renc (.slice a p.n cap))
  hist : p.hist < 64
  n : p.n ≤ 4
  ct : ∀ k, p.ct k ≤ 3
  sl : SL w 0 1 a p.n cap p.sc
  ap : Apart a b

section
variable {w w' : World} {b cap : Nat} {a : Option Addr} {p : P}
theorem RAt.lt (h : RAt w b a cap p) : b < w.heap.size := h.cells.lt
theorem RAt.keep (h : RAt w b a cap p) (g : w.grownBy w' none) : RAt w' b a cap p := ⟨h.cells.grown g (by simp), h.hist, h.n, h.ct, h.sl.keep g, h.ap⟩
theorem RAt.far (h : RAt w b a cap p) {r : Nat} (g : w.grownBy w' (some r)) (hb : b ≠ r) (ha : Apart a r) : RAt w' b a cap p := ⟨h.cells.grown g (fun e => hb (by injection e)), h.hist, h.n, h.ct, h.sl.far g ha, h.ap⟩
theorem RAt.drewN (h : RAt w b a cap p) (k : Nat) : RAt (w.drewN k) b a cap p := h.keep (only_drewN (World.grownBy.refl _ _) k)
theorem RAt.drew (h : RAt w b a cap p) : RAt w.drew b a cap p := h.keep (only_drew (World.grownBy.refl _ _))
theorem RAt.alloc (h : RAt w b a cap p) (o : Obj) : RAt (w.alloc o) b a cap p := h.keep (only_alloc (World.grownBy.refl _ _) o)
theorem RAt.c160 (h : RAt w b a cap p) : w.cell? ⟨b, 160, none⟩ = some (.int .i64 p.hist) := h.cells.cell 160 (by omega)
theorem RAt.c161 (h : RAt w b a cap p) : w.cell? ⟨b, 161, none⟩ = some (.slice a p.n cap) := h.cells.cell 161 (by omega)
theorem RAt.counter (h : RAt w b a cap p) (k : Nat) (hk : k < 64) : w.cell? ⟨b, 96 + k, none⟩ = some (.int .i64 (p.ct k)) :=
  (h.cells.cell (96 + k) (by omega)).trans (by unfold P.renc; rw [if_neg (by omega), if_pos (by omega), Nat.add_sub_cancel_left])
theorem RAt.aim (h : RAt w b a cap p) (i : Nat) (hi : i < 16) (j : Nat) (hj : j < 6) : w.cell? ⟨b, i * 6 + j, none⟩ = some ((p.tg i).ac j) :=
  (h.cells.cell (i * 6 + j) (by omega)).trans (by unfold P.renc; rw [if_pos (by omega), show (i * 6 + j) / 6 = i by omega, show (i * 6 + j) % 6 = j by omega])
/-- The top of the stack. -/
theorem RAt.top (h : RAt w b a cap p) (hn : 0 < p.n) : ∃ g off, a = some ⟨g, off, none⟩ ∧ g < w.heap.size ∧ w.cell? ⟨g, off + (p.n - 1), none⟩ = some (.int .u64 (p.ring (p.n - 1))) := by
  obtain ⟨g, off, ha, _, hg, hc⟩ := h.sl.head hn
  exact ⟨g, off, ha, hg, hc (p.n - 1) _ (by unfold P.sc; rw [List.getElem?_map, List.getElem?_range (by omega)]; rfl)⟩
end

theorem u64_and63 (x : Nat) (hx : x < 18446744073709551616) : bits BinOp.and IntKind.u64 (x : Int) 63 = ((x % 64 : Nat) : Int) := by
  show IntKind.u64.wrap ((BitVec.ofInt 64 (x : Int) &&& BitVec.ofInt 64 ((63 : Nat) : Int)).toNat : Int) = _
  rw [BitVec.toNat_and, BitVec.ofInt_natCast, BitVec.ofInt_natCast, BitVec.toNat_ofNat, BitVec.toNat_ofNat, IntKind.wrap_u64]
  have e : x % 2 ^ 64 &&& 63 % 2 ^ 64 = x % 64 := by
    rw [Nat.mod_eq_of_lt (by omega), Nat.mod_eq_of_lt (by omega)]
    exact Nat.and_two_pow_sub_one_eq_mod x 6
  rw [e]
  omega
theorem cix_place (pc : Int) (h : Nat) (h0 : 0 ≤ pc) (h1 : pc < 18446744073709551616) (hh : h < 64) : bits BinOp.xor IntKind.i64 (bits BinOp.and IntKind.u64 (pc / 4) 63) (h : Int) = (cix pc h : Int) := by
  have e : pc / 4 = ((pc.toNat / 4 : Nat) : Int) := by omega
  rw [e, u64_and63 _ (by omega), xor_nat _ _ (by omega) (by omega)]
  congr 1
  unfold cix
  rw [Nat.and_xor_distrib_right, show (63 : Nat) = 2 ^ 6 - 1 from rfl, Nat.and_two_pow_sub_one_eq_mod, Nat.and_two_pow_sub_one_eq_mod, Nat.mod_eq_of_lt (show h < 2 ^ 6 by omega)]
theorem place_in (pc : Int) (h0 : 0 ≤ pc) (h1 : pc < 18446744073709551616) : 0 ≤ bits BinOp.and IntKind.u64 (pc / 4) 63 ∧ bits BinOp.and IntKind.u64 (pc / 4) 63 < 64 := by
  have e : pc / 4 = ((pc.toNat / 4 : Nat) : Int) := by omega
  rw [e, u64_and63 _ (by omega)]
  omega

theorem place_any (b : Nat) (pc : Int) (w : World) (a : Option Addr) (cap : Nat) (p : P) (hp : RAt w b a cap p) (h0 : 0 ≤ pc) (h1 : pc < 18446744073709551616) :
    Calls Try.prog 53 #[.pointer (some ⟨b, 0, none⟩), .int .u64 pc] w fun e w' => e = .returned (.int .i64 (cix pc p.hist)) ∧ w = w' := by
  have hlt := hp.lt
  have c := hp.c160
  have E := hide (show bits BinOp.xor IntKind.i64 (wrap64 (bits BinOp.and IntKind.u64 (pc / 4) 63)) (p.hist : Int) = (cix pc p.hist : Int) by
    obtain ⟨i0, i1⟩ := place_in pc h0 h1
    rw [show wrap64 (bits BinOp.and IntKind.u64 (pc / 4) 63) = bits BinOp.and IntKind.u64 (pc / 4) 63 by unfold wrap64; omega]
    exact cix_place pc p.hist h0 h1 hp.hist)
  clear hp
  go_enter Try.func53, Try.ntmps53
  go_wp2
  go_ret
  exact ⟨congrArg (fun x => Ending.returned (.int .i64 x)) E.out, rfl⟩

def RG (b : Nat) (w : World) (a : Option Addr) (cap : Nat) (p : P) (g : Bool × Int) (e : Ending) (w' : World) : Prop := e = .returned (.agg #[.bool g.1, .int .u64 g.2]) ∧ w.grownBy w' none ∧ RAt w' b a cap p
set_option maxRecDepth 100000 in
set_option maxHeartbeats 3200000 in
theorem rguess_off (b : Nat) (pc : Int) (w : World) (a : Option Addr) (cap : Nat) (p : P) (hp : RAt w b a cap p) (h0 : 0 ≤ pc) (h1 : pc < 18446744073709551616) (tpc tgt : Int) (call ret cond taken : Bool) (hT : p.tg (tix pc) = ⟨false, ⟨tpc, call, ret, cond, taken, tgt⟩⟩) :
    Calls Try.prog 35 #[.pointer (some ⟨b, 0, none⟩), .int .u64 pc] w (RG b w a cap p (p.guess pc)) := by
  have hG : p.guess pc = (false, np pc) := by unfold P.guess; rw [hT]; simp [guessOf]
  rw [hG]
  have hlt := hp.lt
  have ht := tix_lt pc
  have tb := tix_bits pc h0 h1
  have t0 := hp.aim (tix pc) ht 0 (by omega)
  have t1 := hp.aim (tix pc) ht 1 (by omega)
  have t2 := hp.aim (tix pc) ht 2 (by omega)
  have t3 := hp.aim (tix pc) ht 3 (by omega)
  have t4 := hp.aim (tix pc) ht 4 (by omega)
  have t5 := hp.aim (tix pc) ht 5 (by omega)
  rw [hT] at t0 t1 t2 t3 t4 t5
  simp only [T.ac, Nat.add_zero] at t0 t1 t2 t3 t4 t5
  have ht' : ((tix pc : Nat) : Int) < 16 := by omega
  have HP := hide hp
  clear hp hT hG
  go_enter Try.func35, Try.ntmps35
  go_wp2_with fail
  go_returns
  refine ⟨rfl, ?_, HP.out.keep ?_⟩
  all_goals ((repeat (first | (with_reducible exact World.grownBy.refl _ _) | (with_reducible refine only_setCell ?_ (.inr (by simp)) _) | (with_reducible refine only_setCell ?_ (.inr (by simp; omega)) _) | (with_reducible refine only_drewN ?_ _) | (with_reducible refine only_drew ?_) | (with_reducible refine only_alloc ?_ _))); done)
set_option maxRecDepth 100000 in
set_option maxHeartbeats 3200000 in
theorem rguess_else (b : Nat) (pc : Int) (w : World) (a : Option Addr) (cap : Nat) (p : P) (hp : RAt w b a cap p) (h0 : 0 ≤ pc) (h1 : pc < 18446744073709551616) (tpc tgt : Int) (call ret cond taken : Bool) (hT : p.tg (tix pc) = ⟨true, ⟨tpc, call, ret, cond, taken, tgt⟩⟩) (hne : tpc ≠ pc) :
    Calls Try.prog 35 #[.pointer (some ⟨b, 0, none⟩), .int .u64 pc] w (RG b w a cap p (p.guess pc)) := by
  have hG : p.guess pc = (false, np pc) := by unfold P.guess; rw [hT]; simp [guessOf, hne]
  rw [hG]
  have hlt := hp.lt
  have ht := tix_lt pc
  have tb := tix_bits pc h0 h1
  have t0 := hp.aim (tix pc) ht 0 (by omega)
  have t1 := hp.aim (tix pc) ht 1 (by omega)
  have t2 := hp.aim (tix pc) ht 2 (by omega)
  have t3 := hp.aim (tix pc) ht 3 (by omega)
  have t4 := hp.aim (tix pc) ht 4 (by omega)
  have t5 := hp.aim (tix pc) ht 5 (by omega)
  rw [hT] at t0 t1 t2 t3 t4 t5
  simp only [T.ac, Nat.add_zero] at t0 t1 t2 t3 t4 t5
  have ht' : ((tix pc : Nat) : Int) < 16 := by omega
  have HP := hide hp
  have hb : ((tpc : Int) != pc) = true := bne_iff_ne.2 hne
  clear hne
  clear hp hT hG
  go_enter Try.func35, Try.ntmps35
  go_wp2_with fail
  go_returns
  refine ⟨rfl, ?_, HP.out.keep ?_⟩
  all_goals ((repeat (first | (with_reducible exact World.grownBy.refl _ _) | (with_reducible refine only_setCell ?_ (.inr (by simp)) _) | (with_reducible refine only_setCell ?_ (.inr (by simp; omega)) _) | (with_reducible refine only_drewN ?_ _) | (with_reducible refine only_drew ?_) | (with_reducible refine only_alloc ?_ _))); done)
set_option maxRecDepth 100000 in
set_option maxHeartbeats 3200000 in
theorem rguess_top (b : Nat) (pc : Int) (w : World) (a : Option Addr) (cap : Nat) (p : P) (hp : RAt w b a cap p) (h0 : 0 ≤ pc) (h1 : pc < 18446744073709551616) (tgt : Int) (call cond taken : Bool) (hT : p.tg (tix pc) = ⟨true, ⟨pc, call, true, cond, taken, tgt⟩⟩) (hn : 0 < p.n) :
    Calls Try.prog 35 #[.pointer (some ⟨b, 0, none⟩), .int .u64 pc] w (RG b w a cap p (p.guess pc)) := by
  have hG : p.guess pc = (true, p.ring (p.n - 1)) := by unfold P.guess; rw [hT]; simp [guessOf, hn]
  rw [hG]
  have hlt := hp.lt
  have ht := tix_lt pc
  have tb := tix_bits pc h0 h1
  have t0 := hp.aim (tix pc) ht 0 (by omega)
  have t1 := hp.aim (tix pc) ht 1 (by omega)
  have t2 := hp.aim (tix pc) ht 2 (by omega)
  have t3 := hp.aim (tix pc) ht 3 (by omega)
  have t4 := hp.aim (tix pc) ht 4 (by omega)
  have t5 := hp.aim (tix pc) ht 5 (by omega)
  rw [hT] at t0 t1 t2 t3 t4 t5
  simp only [T.ac, Nat.add_zero] at t0 t1 t2 t3 t4 t5
  have ht' : ((tix pc : Nat) : Int) < 16 := by omega
  have HP := hide hp
  have hn4 := hp.n
  have c161 := hp.c161
  obtain ⟨g, off, rfl, hg, st⟩ := hp.top hn
  have hn1 : ((p.n : Int) - 1).toNat = p.n - 1 := by omega
  have hn2 : IntKind.i64.wrap ((p.n : Int) - 1) = (p.n : Int) - 1 := IntWalk.i64_in _ (by omega)
  have hn3 : (0 : Int) ≤ (p.n : Int) - 1 := by omega
  have hn5 : (p.n : Int) - 1 < (p.n : Int) := by omega
  clear hp hT hG
  go_enter Try.func35, Try.ntmps35
  go_wp2_with fail
  go_region
  go_wp2_with fail
  go_returns
  refine ⟨rfl, ?_, HP.out.keep ?_⟩
  all_goals ((repeat (first | (with_reducible exact World.grownBy.refl _ _) | (with_reducible refine only_setCell ?_ (.inr (by simp)) _) | (with_reducible refine only_setCell ?_ (.inr (by simp; omega)) _) | (with_reducible refine only_drewN ?_ _) | (with_reducible refine only_drew ?_) | (with_reducible refine only_alloc ?_ _))); done)
set_option maxRecDepth 100000 in
set_option maxHeartbeats 3200000 in
theorem rguess_bare (b : Nat) (pc : Int) (w : World) (a : Option Addr) (cap : Nat) (p : P) (hp : RAt w b a cap p) (h0 : 0 ≤ pc) (h1 : pc < 18446744073709551616) (tgt : Int) (call cond taken : Bool) (hT : p.tg (tix pc) = ⟨true, ⟨pc, call, true, cond, taken, tgt⟩⟩) (hn : p.n = 0) :
    Calls Try.prog 35 #[.pointer (some ⟨b, 0, none⟩), .int .u64 pc] w (RG b w a cap p (p.guess pc)) := by
  have hG : p.guess pc = (true, tgt) := by unfold P.guess; rw [hT]; simp [guessOf, hn]
  rw [hG]
  have hlt := hp.lt
  have ht := tix_lt pc
  have tb := tix_bits pc h0 h1
  have t0 := hp.aim (tix pc) ht 0 (by omega)
  have t1 := hp.aim (tix pc) ht 1 (by omega)
  have t2 := hp.aim (tix pc) ht 2 (by omega)
  have t3 := hp.aim (tix pc) ht 3 (by omega)
  have t4 := hp.aim (tix pc) ht 4 (by omega)
  have t5 := hp.aim (tix pc) ht 5 (by omega)
  rw [hT] at t0 t1 t2 t3 t4 t5
  simp only [T.ac, Nat.add_zero] at t0 t1 t2 t3 t4 t5
  have ht' : ((tix pc : Nat) : Int) < 16 := by omega
  have HP := hide hp
  have c161 := hp.c161
  rw [hn] at c161
  clear hn
  clear hp hT hG
  go_enter Try.func35, Try.ntmps35
  go_wp2_with fail
  go_returns
  refine ⟨rfl, ?_, HP.out.keep ?_⟩
  all_goals ((repeat (first | (with_reducible exact World.grownBy.refl _ _) | (with_reducible refine only_setCell ?_ (.inr (by simp)) _) | (with_reducible refine only_setCell ?_ (.inr (by simp; omega)) _) | (with_reducible refine only_drewN ?_ _) | (with_reducible refine only_drew ?_) | (with_reducible refine only_alloc ?_ _))); done)
set_option maxRecDepth 100000 in
set_option maxHeartbeats 3200000 in
theorem rguess_plain (b : Nat) (pc : Int) (w : World) (a : Option Addr) (cap : Nat) (p : P) (hp : RAt w b a cap p) (h0 : 0 ≤ pc) (h1 : pc < 18446744073709551616) (tgt : Int) (call taken : Bool) (hT : p.tg (tix pc) = ⟨true, ⟨pc, call, false, false, taken, tgt⟩⟩) :
    Calls Try.prog 35 #[.pointer (some ⟨b, 0, none⟩), .int .u64 pc] w (RG b w a cap p (p.guess pc)) := by
  have hG : p.guess pc = (true, tgt) := by unfold P.guess; rw [hT]; simp [guessOf]
  rw [hG]
  have hlt := hp.lt
  have ht := tix_lt pc
  have tb := tix_bits pc h0 h1
  have t0 := hp.aim (tix pc) ht 0 (by omega)
  have t1 := hp.aim (tix pc) ht 1 (by omega)
  have t2 := hp.aim (tix pc) ht 2 (by omega)
  have t3 := hp.aim (tix pc) ht 3 (by omega)
  have t4 := hp.aim (tix pc) ht 4 (by omega)
  have t5 := hp.aim (tix pc) ht 5 (by omega)
  rw [hT] at t0 t1 t2 t3 t4 t5
  simp only [T.ac, Nat.add_zero] at t0 t1 t2 t3 t4 t5
  have ht' : ((tix pc : Nat) : Int) < 16 := by omega
  have HP := hide hp
  have PL := hide fun (W : World) (h : RAt W b a cap p) => place_any b pc W a cap p h h0 h1
  have cc := hp.counter (cix pc p.hist) (cix_lt _ _)
  have hk := cix_lt pc p.hist
  have hk' : ((cix pc p.hist : Nat) : Int) < 64 := by omega
  clear hp hT hG
  go_enter Try.func35, Try.ntmps35
  go_wp2_with fail
  have H2 := hide ((HP.out.alloc (.cells #[.bool false, .int .u64 0] 46)).alloc (.cells #[.bool true, .int .u64 pc, .int .u64 tgt, .bool call, .bool false, .bool false] 67))
  have PQ := hide (fun n => show Calls Try.prog 53 #[.pointer (some ⟨b, 0, none⟩), .int .u64 pc] (((w.alloc (.cells #[.bool false, .int .u64 0] 46)).alloc (.cells #[.bool true, .int .u64 pc, .int .u64 tgt, .bool call, .bool false, .bool false] 67)).drewN n) fun e w' => e = .returned (.int .i64 (cix pc p.hist)) ∧ w' = (((w.alloc (.cells #[.bool false, .int .u64 0] 46)).alloc (.cells #[.bool true, .int .u64 pc, .int .u64 tgt, .bool call, .bool false, .bool false] 67)).drewN n) from (PL.out _ (H2.out.drewN n)).mono fun _ _ h => ⟨h.1, h.2.symm⟩)
  go_quiet ((go_at_call 53; exact Calls.quiet_of_same (PQ.out _)))
  go_wp2_with fail
  go_returns
  refine ⟨rfl, ?_, HP.out.keep ?_⟩
  all_goals ((repeat (first | (with_reducible exact World.grownBy.refl _ _) | (with_reducible refine only_setCell ?_ (.inr (by simp)) _) | (with_reducible refine only_setCell ?_ (.inr (by simp; omega)) _) | (with_reducible refine only_drewN ?_ _) | (with_reducible refine only_drew ?_) | (with_reducible refine only_alloc ?_ _))); done)
set_option maxRecDepth 100000 in
set_option maxHeartbeats 3200000 in
theorem rguess_weak (b : Nat) (pc : Int) (w : World) (a : Option Addr) (cap : Nat) (p : P) (hp : RAt w b a cap p) (h0 : 0 ≤ pc) (h1 : pc < 18446744073709551616) (tgt : Int) (call taken : Bool) (hT : p.tg (tix pc) = ⟨true, ⟨pc, call, false, true, taken, tgt⟩⟩) (hc : p.ct (cix pc p.hist) < 2) :
    Calls Try.prog 35 #[.pointer (some ⟨b, 0, none⟩), .int .u64 pc] w (RG b w a cap p (p.guess pc)) := by
  have hG : p.guess pc = (false, np pc) := by unfold P.guess; rw [hT]; simp [guessOf, hc]
  rw [hG]
  have hlt := hp.lt
  have ht := tix_lt pc
  have tb := tix_bits pc h0 h1
  have t0 := hp.aim (tix pc) ht 0 (by omega)
  have t1 := hp.aim (tix pc) ht 1 (by omega)
  have t2 := hp.aim (tix pc) ht 2 (by omega)
  have t3 := hp.aim (tix pc) ht 3 (by omega)
  have t4 := hp.aim (tix pc) ht 4 (by omega)
  have t5 := hp.aim (tix pc) ht 5 (by omega)
  rw [hT] at t0 t1 t2 t3 t4 t5
  simp only [T.ac, Nat.add_zero] at t0 t1 t2 t3 t4 t5
  have ht' : ((tix pc : Nat) : Int) < 16 := by omega
  have HP := hide hp
  have PL := hide fun (W : World) (h : RAt W b a cap p) => place_any b pc W a cap p h h0 h1
  have cc := hp.counter (cix pc p.hist) (cix_lt _ _)
  have hk := cix_lt pc p.hist
  have hk' : ((cix pc p.hist : Nat) : Int) < 64 := by omega
  have hd : decide ((p.ct (cix pc p.hist) : Int) < 2) = true := by simp; omega
  clear hc
  clear hp hT hG
  go_enter Try.func35, Try.ntmps35
  go_wp2_with fail
  have H2 := hide ((HP.out.alloc (.cells #[.bool false, .int .u64 0] 46)).alloc (.cells #[.bool true, .int .u64 pc, .int .u64 tgt, .bool call, .bool false, .bool true] 67))
  have PQ := hide (fun n => show Calls Try.prog 53 #[.pointer (some ⟨b, 0, none⟩), .int .u64 pc] (((w.alloc (.cells #[.bool false, .int .u64 0] 46)).alloc (.cells #[.bool true, .int .u64 pc, .int .u64 tgt, .bool call, .bool false, .bool true] 67)).drewN n) fun e w' => e = .returned (.int .i64 (cix pc p.hist)) ∧ w' = (((w.alloc (.cells #[.bool false, .int .u64 0] 46)).alloc (.cells #[.bool true, .int .u64 pc, .int .u64 tgt, .bool call, .bool false, .bool true] 67)).drewN n) from (PL.out _ (H2.out.drewN n)).mono fun _ _ h => ⟨h.1, h.2.symm⟩)
  go_quiet ((go_at_call 53; exact Calls.quiet_of_same (PQ.out _)))
  go_wp2_with fail
  go_returns
  refine ⟨rfl, ?_, HP.out.keep ?_⟩
  all_goals ((repeat (first | (with_reducible exact World.grownBy.refl _ _) | (with_reducible refine only_setCell ?_ (.inr (by simp)) _) | (with_reducible refine only_setCell ?_ (.inr (by simp; omega)) _) | (with_reducible refine only_drewN ?_ _) | (with_reducible refine only_drew ?_) | (with_reducible refine only_alloc ?_ _))); done)
set_option maxRecDepth 100000 in
set_option maxHeartbeats 3200000 in
theorem rguess_strong (b : Nat) (pc : Int) (w : World) (a : Option Addr) (cap : Nat) (p : P) (hp : RAt w b a cap p) (h0 : 0 ≤ pc) (h1 : pc < 18446744073709551616) (tgt : Int) (call taken : Bool) (hT : p.tg (tix pc) = ⟨true, ⟨pc, call, false, true, taken, tgt⟩⟩) (hc : ¬ p.ct (cix pc p.hist) < 2) :
    Calls Try.prog 35 #[.pointer (some ⟨b, 0, none⟩), .int .u64 pc] w (RG b w a cap p (p.guess pc)) := by
  have hG : p.guess pc = (true, tgt) := by unfold P.guess; rw [hT]; simp [guessOf, hc]
  rw [hG]
  have hlt := hp.lt
  have ht := tix_lt pc
  have tb := tix_bits pc h0 h1
  have t0 := hp.aim (tix pc) ht 0 (by omega)
  have t1 := hp.aim (tix pc) ht 1 (by omega)
  have t2 := hp.aim (tix pc) ht 2 (by omega)
  have t3 := hp.aim (tix pc) ht 3 (by omega)
  have t4 := hp.aim (tix pc) ht 4 (by omega)
  have t5 := hp.aim (tix pc) ht 5 (by omega)
  rw [hT] at t0 t1 t2 t3 t4 t5
  simp only [T.ac, Nat.add_zero] at t0 t1 t2 t3 t4 t5
  have ht' : ((tix pc : Nat) : Int) < 16 := by omega
  have HP := hide hp
  have PL := hide fun (W : World) (h : RAt W b a cap p) => place_any b pc W a cap p h h0 h1
  have cc := hp.counter (cix pc p.hist) (cix_lt _ _)
  have hk := cix_lt pc p.hist
  have hk' : ((cix pc p.hist : Nat) : Int) < 64 := by omega
  have hd : decide ((p.ct (cix pc p.hist) : Int) < 2) = false := by simp; omega
  clear hc
  clear hp hT hG
  go_enter Try.func35, Try.ntmps35
  go_wp2_with fail
  have H2 := hide ((HP.out.alloc (.cells #[.bool false, .int .u64 0] 46)).alloc (.cells #[.bool true, .int .u64 pc, .int .u64 tgt, .bool call, .bool false, .bool true] 67))
  have PQ := hide (fun n => show Calls Try.prog 53 #[.pointer (some ⟨b, 0, none⟩), .int .u64 pc] (((w.alloc (.cells #[.bool false, .int .u64 0] 46)).alloc (.cells #[.bool true, .int .u64 pc, .int .u64 tgt, .bool call, .bool false, .bool true] 67)).drewN n) fun e w' => e = .returned (.int .i64 (cix pc p.hist)) ∧ w' = (((w.alloc (.cells #[.bool false, .int .u64 0] 46)).alloc (.cells #[.bool true, .int .u64 pc, .int .u64 tgt, .bool call, .bool false, .bool true] 67)).drewN n) from (PL.out _ (H2.out.drewN n)).mono fun _ _ h => ⟨h.1, h.2.symm⟩)
  go_quiet ((go_at_call 53; exact Calls.quiet_of_same (PQ.out _)))
  go_wp2_with fail
  go_returns
  refine ⟨rfl, ?_, HP.out.keep ?_⟩
  all_goals ((repeat (first | (with_reducible exact World.grownBy.refl _ _) | (with_reducible refine only_setCell ?_ (.inr (by simp)) _) | (with_reducible refine only_setCell ?_ (.inr (by simp; omega)) _) | (with_reducible refine only_drewN ?_ _) | (with_reducible refine only_drew ?_) | (with_reducible refine only_alloc ?_ _))); done)

theorem rguess_any (b : Nat) (pc : Int) (w : World) (a : Option Addr) (cap : Nat) (p : P) (hp : RAt w b a cap p) (h0 : 0 ≤ pc) (h1 : pc < 18446744073709551616) :
    Calls Try.prog 35 #[.pointer (some ⟨b, 0, none⟩), .int .u64 pc] w (RG b w a cap p (p.guess pc)) := by
  rcases hT : p.tg (tix pc) with ⟨on, tpc, call, ret, cond, taken, tgt⟩
  cases on
  · exact rguess_off b pc w a cap p hp h0 h1 tpc tgt call ret cond taken hT
  · by_cases hpc : tpc = pc
    · subst hpc
      cases ret
      · cases cond
        · exact rguess_plain b tpc w a cap p hp h0 h1 tgt call taken hT
        · by_cases hc : p.ct (cix tpc p.hist) < 2
          · exact rguess_weak b tpc w a cap p hp h0 h1 tgt call taken hT hc
          · exact rguess_strong b tpc w a cap p hp h0 h1 tgt call taken hT hc
      · by_cases hn : 0 < p.n
        · exact rguess_top b tpc w a cap p hp h0 h1 tgt call cond taken hT hn
        · exact rguess_bare b tpc w a cap p hp h0 h1 tgt call cond taken hT (by omega)
    · exact rguess_else b pc w a cap p hp h0 h1 tpc tgt call ret cond taken hT hpc
end Go.Proofs.Ytkjgklpdoomjcaa

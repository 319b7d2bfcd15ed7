/- The predictor's methods (package predict), each by a contract over its state: where its targets, counters, history and stack lie. -/
import Derived.Test.YtkjgklpdoomjcaaProg
import Derived.Test.YtkjgklpdoomjcaaCells
import Derived.Test.YtkjgklpdoomjcaaOpenT
import Derived.Handy
import Derived.WalkSpells
import Derived.BigRegion
import Derived.BigQuiet
import Derived.Deep.QuietTactic
import Derived.Outline
namespace Go.Proofs.Ytkjgklpdoomjcaa
open Go.RowKit

/-- A place of the table of targets. -/
structure T where
  on : Bool
  j : J

/-- Cell i of it. -/
def T.c (t : T) : Nat → Value
  | 0 => .bool t.on
  | 1 => .int .u64 t.j.pc
  | 2 => .bool t.j.call
  | 3 => .bool t.j.ret
  | 4 => .bool t.j.cond
  | 5 => .bool t.j.taken
  | _ => .int .u64 t.j.target

/-- The predictor's state. -/
structure P where
  tg : Nat → T
  ct : Nat → Nat
  hist : Nat
  ring : Nat → Int
  n : Nat

def P.enc (b : Nat) (p : P) (o : Nat) : Value :=
  if o < 112 then (p.tg (o / 7)).c (o % 7) else if o < 176 then .int .i64 (p.ct (o - 112)) else if o = 176 then .int .i64 p.hist else if o < 181 then .int .u64 (p.ring (o - 177)) else .slice (some ⟨b, 177, none⟩) p.n 4

structure PAt (w : World) (b : Nat) (p : P) : Prop where
  cells : CellsAt w b 182 (p.enc b)
  hist : p.hist < 64
  n : p.n ≤ 4
  ct : ∀ k, p.ct k ≤ 3

theorem PAt.c176 {w : World} {b : Nat} {p : P} (h : PAt w b p) : w.cell? ⟨b, 176, none⟩ = some (.int .i64 p.hist) := h.cells.cell 176 (by omega)
theorem PAt.c181 {w : World} {b : Nat} {p : P} (h : PAt w b p) : w.cell? ⟨b, 181, none⟩ = some (.slice (some ⟨b, 177, none⟩) p.n 4) := h.cells.cell 181 (by omega)
theorem PAt.counter {w : World} {b : Nat} {p : P} (h : PAt w b p) (k : Nat) (hk : k < 64) : w.cell? ⟨b, 112 + k, none⟩ = some (.int .i64 (p.ct k)) :=
  (h.cells.cell (112 + k) (by omega)).trans (by unfold P.enc; rw [if_neg (by omega), if_pos (by omega), Nat.add_sub_cancel_left])
theorem PAt.stack {w : World} {b : Nat} {p : P} (h : PAt w b p) (k : Nat) (hk : k < 4) : w.cell? ⟨b, 177 + k, none⟩ = some (.int .u64 (p.ring k)) :=
  (h.cells.cell (177 + k) (by omega)).trans (by unfold P.enc; rw [if_neg (by omega), if_neg (by omega), if_neg (by omega), if_pos (by omega), Nat.add_sub_cancel_left])
theorem penc_target (b : Nat) (p : P) (i j : Nat) (hi : i < 16) (hj : j < 7) : p.enc b (i * 7 + j) = (p.tg i).c j := by
  unfold P.enc
  rw [if_pos (by omega), show (i * 7 + j) / 7 = i by omega, show (i * 7 + j) % 7 = j by omega]
theorem PAt.target {w : World} {b : Nat} {p : P} (h : PAt w b p) (i : Nat) (hi : i < 16) (j : Nat) (hj : j < 7) : w.cell? ⟨b, i * 7 + j, none⟩ = some ((p.tg i).c j) :=
  (h.cells.cell (i * 7 + j) (by omega)).trans (by rw [penc_target b p i j hi hj])
theorem PAt.lt {w : World} {b : Nat} {p : P} (h : PAt w b p) : b < w.heap.size := h.cells.lt
theorem PAt.drewN {w : World} {b : Nat} {p : P} (h : PAt w b p) (k : Nat) : PAt (w.drewN k) b p := ⟨h.cells.drewN k, h.hist, h.n, h.ct⟩
theorem PAt.drew {w : World} {b : Nat} {p : P} (h : PAt w b p) : PAt w.drew b p := ⟨h.cells.drew, h.hist, h.n, h.ct⟩
theorem PAt.alloc {w : World} {b : Nat} {p : P} (h : PAt w b p) (o : Obj) : PAt (w.alloc o) b p := ⟨h.cells.alloc o, h.hist, h.n, h.ct⟩
theorem PAt.grown {w w' : World} {b : Nat} {p : P} (h : PAt w b p) {row : Option Nat} (g : w.grownBy w' row) (hne : some b ≠ row) : PAt w' b p := ⟨h.cells.grown g hne, h.hist, h.n, h.ct⟩
theorem PAt.and {w w' : World} {b : Nat} {p : P} (h : PAt w b p) (g : w.grownBy w' none) : w.grownBy w' none ∧ PAt w' b p := ⟨g, h.grown g (by simp)⟩

theorem history_any (b : Nat) (w : World) (p : P) (hp : PAt w b p) :
    Calls Try.prog 33 #[.pointer (some ⟨b, 0, none⟩)] w fun e w' => e = .returned (.int .i64 p.hist) ∧ w = w' := by
  have hlt := hp.lt
  have c := hp.c176
  clear hp
  go_enter Try.func33, Try.ntmps33
  go_wp2
  go_ret
  exact ⟨rfl, rfl⟩

theorem penc_squash (b : Nat) (p : P) (m : Nat) (o : Nat) (ho : o < 182) : upd (p.enc b) 181 (.slice (some ⟨b, 177, none⟩) m 4) o = ({ p with n := m } : P).enc b o := by
  unfold upd P.enc
  simp only []
  by_cases e : o = 181
  · subst e; simp
  · rw [if_neg e]
    by_cases h : o < 181
    · by_cases h1 : o < 112
      · rw [if_pos h1, if_pos h1]
      · rw [if_neg h1, if_neg h1]
        by_cases h2 : o < 176
        · rw [if_pos h2, if_pos h2]
        · rw [if_neg h2, if_neg h2]
          by_cases h3 : o = 176
          · rw [if_pos h3, if_pos h3]
          · rw [if_neg h3, if_neg h3, if_pos h, if_pos h]
    · omega

/-- The stack's length is set. -/
theorem PAt.setN {w : World} {b : Nat} {p : P} (h : PAt w b p) (m : Nat) (hm : m ≤ 4) : PAt (w.setCell ⟨b, 181, none⟩ (.slice (some ⟨b, 177, none⟩) m 4)) b { p with n := m } :=
  ⟨(h.cells.set _ _).congr fun o ho => penc_squash b p m o ho, h.hist, hm, h.ct⟩

theorem psquash_any (b : Nat) (w : World) (p : P) (hp : PAt w b p) :
    Calls Try.prog 32 #[.pointer (some ⟨b, 0, none⟩)] w fun e w' => e = .returned (.tuple #[]) ∧ w.grownBy w' (some b) ∧ PAt w' b { p with n := 0 } := by
  have hlt := hp.lt
  have c := hp.c181
  have f := hp.cells.free
  have HP := hide hp
  clear hp
  go_enter Try.func32, Try.ntmps32
  go_wp2
  go_end0
  refine ⟨rfl, ?_, ?_⟩
  · with_reducible exact only_setCell (World.grownBy.refl _ _) (.inl rfl) _
  · with_reducible exact HP.out.setN 0 (by omega)

/-- Which place of the table of targets. -/
def tix (pc : Int) : Nat := (pc / 4 % 16).toNat
theorem tix_lt (pc : Int) : tix pc < 16 := by unfold tix; omega

theorem target_any (b : Nat) (pc : Int) (w : World) (h0 : 0 ≤ pc) (h1 : pc < 18446744073709551616) :
    Calls Try.prog 51 #[.pointer (some ⟨b, 0, none⟩), .int .u64 pc] w fun e w' => e = .returned (.pointer (some ⟨b, tix pc * 7, none⟩)) ∧ w = w' := by
  go_enter Try.func51, Try.ntmps51
  go_wp2
  go_ret
  exact ⟨rfl, rfl⟩

theorem ofInt_nat (a : Nat) (ha : a < 9223372036854775808) : (BitVec.ofInt 64 (a : Int)).toNat = a := by
  rw [BitVec.ofInt_natCast, BitVec.toNat_ofNat]; exact Nat.mod_eq_of_lt (by omega)
theorem and_nat (a b : Nat) (ha : a < 9223372036854775808) (hb : b < 9223372036854775808) : bits .and .i64 (a : Int) (b : Int) = ((a &&& b : Nat) : Int) := by
  have hx : a &&& b < 2 ^ 63 := Nat.and_lt_two_pow _ (by omega)
  show IntKind.i64.wrap ((BitVec.ofInt 64 (a : Int) &&& BitVec.ofInt 64 (b : Int)).toNat : Int) = _
  rw [BitVec.toNat_and, ofInt_nat a ha, ofInt_nat b hb, IntKind.wrap_i64]
  omega
theorem or_nat (a b : Nat) (ha : a < 9223372036854775808) (hb : b < 9223372036854775808) : bits .or .i64 (a : Int) (b : Int) = ((a ||| b : Nat) : Int) := by
  have hx : a ||| b < 2 ^ 63 := Nat.or_lt_two_pow (by omega) (by omega)
  show IntKind.i64.wrap ((BitVec.ofInt 64 (a : Int) ||| BitVec.ofInt 64 (b : Int)).toNat : Int) = _
  rw [BitVec.toNat_or, ofInt_nat a ha, ofInt_nat b hb, IntKind.wrap_i64]
  omega
theorem xor_nat (a b : Nat) (ha : a < 9223372036854775808) (hb : b < 9223372036854775808) : bits .xor .i64 (a : Int) (b : Int) = ((a ^^^ b : Nat) : Int) := by
  have hx : a ^^^ b < 2 ^ 63 := Nat.xor_lt_two_pow (by omega) (by omega)
  show IntKind.i64.wrap ((BitVec.ofInt 64 (a : Int) ^^^ BitVec.ofInt 64 (b : Int)).toNat : Int) = _
  rw [BitVec.toNat_xor, ofInt_nat a ha, ofInt_nat b hb, IntKind.wrap_i64]
  omega

/-- Which counter. -/
def cix (pc : Int) (h : Nat) : Nat := (pc.toNat / 4 ^^^ h) &&& 63
theorem cix_lt (pc : Int) (h : Nat) : cix pc h < 64 := by
  have : cix pc h < 2 ^ 6 := Nat.and_lt_two_pow _ (by omega)
  omega
theorem cix_bits (pc : Int) (h : Nat) (h0 : 0 ≤ pc) (h1 : pc < 18446744073709551616) (hh : h < 64) :
    bits BinOp.and IntKind.i64 (bits BinOp.xor IntKind.i64 (IntKind.i64.wrap (pc / 4)) (h : Int)) 63 = (cix pc h : Int) := by
  have e1 : IntKind.i64.wrap (pc / 4) = ((pc.toNat / 4 : Nat) : Int) := by rw [IntKind.wrap_i64]; omega
  have hx : pc.toNat / 4 ^^^ h < 2 ^ 62 := Nat.xor_lt_two_pow (by omega) (by omega)
  rw [e1, xor_nat _ _ (by omega) (by omega), show (63 : Int) = ((63 : Nat) : Int) from rfl, and_nat _ _ (by omega) (by omega)]
  rfl

theorem counter_any (b : Nat) (pc : Int) (w : World) (p : P) (hp : PAt w b p) (h0 : 0 ≤ pc) (h1 : pc < 18446744073709551616) :
    Calls Try.prog 52 #[.pointer (some ⟨b, 0, none⟩), .int .u64 pc] w fun e w' => e = .returned (.pointer (some ⟨b, 112 + cix pc p.hist, none⟩)) ∧ ∃ k, w' = w.drewN k := by
  have hlt := hp.lt
  have c := hp.c176
  have hb := cix_bits pc p.hist h0 h1 hp.hist
  have hk := cix_lt pc p.hist
  have hk' : ((cix pc p.hist : Nat) : Int) < 64 := by omega
  clear hp
  go_enter Try.func52, Try.ntmps52
  go_wp2
  go_quiet (fail)
  go_wp2
  go_ret
  exact ⟨rfl, _, rfl⟩
end Go.Proofs.Ytkjgklpdoomjcaa

/- The queue's methods (package queue), each by a contract over a list of slots: New, Push, Peek, Pop, Squash, Epoch, Len, Room, Holds. -/
import Derived.Test.YtkjgklpdoomjcaaProg
import Derived.Test.YtkjgklpdoomjcaaCells
import Derived.Handy
import Derived.WalkSpells
import Derived.BigRegion
import Derived.BigQuiet
import Derived.Deep.QuietTactic
import Derived.Outline
namespace Go.Proofs.Ytkjgklpdoomjcaa
open Go.RowKit

/-- A slot: api.Slot. -/
structure S where
  pc : Int
  bits : Int
  fault : Int
  next : Int
  epoch : Int

/-- Field j of a slot, as its cell. -/
def S.c (s : S) : Nat → Value
  | 0 => .int .u64 s.pc
  | 1 => .int .u32 s.bits
  | 2 => .int .i64 s.fault
  | 3 => .int .u64 s.next
  | _ => .int .i64 s.epoch

def S.zero : S := ⟨0, 0, 0, 0, 0⟩

/-- The ring and its counters. -/
structure Q where
  r : Nat → S
  h : Nat
  n : Nat
  of : Nat
  ep : Nat

def Q.enc (q : Q) (o : Nat) : Value :=
  if o < 80 then (q.r (o / 5)).c (o % 5) else if o = 80 then .int .i64 q.h else if o = 81 then .int .i64 q.n else if o = 82 then .int .i64 q.of else .int .i64 q.ep

structure QAt (w : World) (b : Nat) (q : Q) : Prop where
  cells : CellsAt w b 84 q.enc
  h : q.h < 16
  n : q.n ≤ q.of
  of : q.of ≤ 16

theorem QAt.c80 {w : World} {b : Nat} {q : Q} (h : QAt w b q) : w.cell? ⟨b, 80, none⟩ = some (.int .i64 q.h) := h.cells.cell 80 (by omega)
theorem QAt.c81 {w : World} {b : Nat} {q : Q} (h : QAt w b q) : w.cell? ⟨b, 81, none⟩ = some (.int .i64 q.n) := h.cells.cell 81 (by omega)
theorem QAt.c82 {w : World} {b : Nat} {q : Q} (h : QAt w b q) : w.cell? ⟨b, 82, none⟩ = some (.int .i64 q.of) := h.cells.cell 82 (by omega)
theorem QAt.c83 {w : World} {b : Nat} {q : Q} (h : QAt w b q) : w.cell? ⟨b, 83, none⟩ = some (.int .i64 q.ep) := h.cells.cell 83 (by omega)
theorem enc_slot (q : Q) (i j : Nat) (hi : i < 16) (hj : j < 5) : q.enc (i * 5 + j) = (q.r i).c j := by
  unfold Q.enc
  rw [if_pos (by omega), show (i * 5 + j) / 5 = i by omega, show (i * 5 + j) % 5 = j by omega]
theorem QAt.slot {w : World} {b : Nat} {q : Q} (h : QAt w b q) (i : Nat) (hi : i < 16) :
    w.cell? ⟨b, i * 5, none⟩ = some (.int .u64 (q.r i).pc) ∧ w.cell? ⟨b, i * 5 + 1, none⟩ = some (.int .u32 (q.r i).bits) ∧ w.cell? ⟨b, i * 5 + 2, none⟩ = some (.int .i64 (q.r i).fault) ∧
    w.cell? ⟨b, i * 5 + 3, none⟩ = some (.int .u64 (q.r i).next) ∧ w.cell? ⟨b, i * 5 + 4, none⟩ = some (.int .i64 (q.r i).epoch) := by
  refine ⟨?_, ?_, ?_, ?_, ?_⟩
  · exact (h.cells.cell (i * 5 + 0) (by omega)).trans (by rw [enc_slot q i 0 hi (by omega)]; rfl)
  · exact (h.cells.cell (i * 5 + 1) (by omega)).trans (by rw [enc_slot q i 1 hi (by omega)]; rfl)
  · exact (h.cells.cell (i * 5 + 2) (by omega)).trans (by rw [enc_slot q i 2 hi (by omega)]; rfl)
  · exact (h.cells.cell (i * 5 + 3) (by omega)).trans (by rw [enc_slot q i 3 hi (by omega)]; rfl)
  · exact (h.cells.cell (i * 5 + 4) (by omega)).trans (by rw [enc_slot q i 4 hi (by omega)]; rfl)

/-! ### What each does to the ring -/
def Q.push (q : Q) (s : S) : Q := { q with r := fun i => if i = (q.h + q.n) % 16 then s else q.r i, n := q.n + 1 }
def Q.pop (q : Q) : Q := { q with h := (q.h + 1) % 16, n := q.n - 1 }
def Q.squash (q : Q) : Q := { q with h := 0, n := 0, ep := q.ep + 1 }

theorem QAt.push {w : World} {b : Nat} {q : Q} (h : QAt w b q) (s : S) (hn : q.n < q.of) :
    QAt ((((((w.setCell ⟨b, (q.h + q.n) % 16 * 5, none⟩ (.int .u64 s.pc)).setCell ⟨b, (q.h + q.n) % 16 * 5 + 1, none⟩ (.int .u32 s.bits)).setCell ⟨b, (q.h + q.n) % 16 * 5 + 2, none⟩ (.int .i64 s.fault)).setCell ⟨b, (q.h + q.n) % 16 * 5 + 3, none⟩ (.int .u64 s.next)).setCell ⟨b, (q.h + q.n) % 16 * 5 + 4, none⟩ (.int .i64 s.epoch)).setCell ⟨b, 81, none⟩ (.int .i64 ((q.n : Int) + 1))) b (q.push s) := by
  refine ⟨((((((h.cells.set _ _).set _ _).set _ _).set _ _).set _ _).set _ _).congr fun o ho => ?_, h.h, by simp [Q.push]; omega, h.of⟩
  unfold upd Q.enc Q.push
  simp only []
  have hk : (q.h + q.n) % 16 < 16 := by omega
  generalize (q.h + q.n) % 16 = k at hk
  by_cases e81 : o = 81
  · subst e81; simp
  rw [if_neg e81]
  by_cases hb : o < 80
  · rw [if_pos hb, if_pos hb]
    by_cases hi : o / 5 = k
    · rw [if_pos hi]
      rcases (by omega : o % 5 = 0 ∨ o % 5 = 1 ∨ o % 5 = 2 ∨ o % 5 = 3 ∨ o % 5 = 4) with e | e | e | e | e
      · rw [if_neg (by omega), if_neg (by omega), if_neg (by omega), if_neg (by omega), if_pos (by omega), e]; rfl
      · rw [if_neg (by omega), if_neg (by omega), if_neg (by omega), if_pos (by omega), e]; rfl
      · rw [if_neg (by omega), if_neg (by omega), if_pos (by omega), e]; rfl
      · rw [if_neg (by omega), if_pos (by omega), e]; rfl
      · rw [if_pos (by omega), e]; rfl
    · rw [if_neg (by omega), if_neg (by omega), if_neg (by omega), if_neg (by omega), if_neg (by omega), if_neg hi]
  · rw [if_neg (by omega), if_neg (by omega), if_neg (by omega), if_neg (by omega), if_neg (by omega), if_neg hb, if_neg hb]
    simp [e81]

theorem QAt.pop {w : World} {b : Nat} {q : Q} (h : QAt w b q) (hn : 0 < q.n) :
    QAt ((w.setCell ⟨b, 80, none⟩ (.int .i64 (((q.h : Int) + 1) % 16))).setCell ⟨b, 81, none⟩ (.int .i64 ((q.n : Int) - 1))) b q.pop := by
  refine ⟨((h.cells.set _ _).set _ _).congr fun o ho => ?_, by simp [Q.pop]; omega, by have := h.n; simp [Q.pop]; omega, h.of⟩
  unfold upd Q.enc Q.pop
  simp only []
  by_cases e81 : o = 81
  · subst e81; simp; omega
  by_cases e80 : o = 80
  · subst e80; simp
  simp [e81, e80]

theorem QAt.squash {w : World} {b : Nat} {q : Q} (h : QAt w b q) :
    QAt (((w.setCell ⟨b, 80, none⟩ (.int .i64 0)).setCell ⟨b, 81, none⟩ (.int .i64 0)).setCell ⟨b, 83, none⟩ (.int .i64 ((q.ep : Int) + 1))) b q.squash := by
  refine ⟨(((h.cells.set _ _).set _ _).set _ _).congr fun o ho => ?_, by simp [Q.squash], by simp [Q.squash], h.of⟩
  unfold upd Q.enc Q.squash
  simp only []
  by_cases e81 : o = 81
  · subst e81; simp
  by_cases e80 : o = 80
  · subst e80; simp
  by_cases e83 : o = 83
  · subst e83; simp
  have e82 : o = 82 ∨ o < 80 := by omega
  rcases e82 with e82 | e82
  · subst e82; simp
  · simp [e81, e80, e82, e83]

theorem QAt.drewN {w : World} {b : Nat} {q : Q} (h : QAt w b q) (k : Nat) : QAt (w.drewN k) b q := ⟨h.cells.drewN k, h.h, h.n, h.of⟩
theorem QAt.drew {w : World} {b : Nat} {q : Q} (h : QAt w b q) : QAt w.drew b q := ⟨h.cells.drew, h.h, h.n, h.of⟩
theorem QAt.alloc {w : World} {b : Nat} {q : Q} (h : QAt w b q) (o : Obj) : QAt (w.alloc o) b q := ⟨h.cells.alloc o, h.h, h.n, h.of⟩
theorem QAt.other {w : World} {b : Nat} {q : Q} (h : QAt w b q) (a : Addr) (hne : b ≠ a.block) (v : Value) : QAt (w.setCell a v) b q := ⟨h.cells.other a hne v, h.h, h.n, h.of⟩
theorem QAt.grown {w w' : World} {b : Nat} {q : Q} (h : QAt w b q) {row : Option Nat} (g : w.grownBy w' row) (hne : some b ≠ row) : QAt w' b q := ⟨h.cells.grown g hne, h.h, h.n, h.of⟩
theorem QAt.and {w w' : World} {b : Nat} {q : Q} (h : QAt w b q) (g : w.grownBy w' none) : w.grownBy w' none ∧ QAt w' b q := ⟨g, h.grown g (by simp)⟩
theorem QAt.lt {w : World} {b : Nat} {q : Q} (h : QAt w b q) : b < w.heap.size := h.cells.lt

/-! ### The contracts over the ring -/
theorem push_ok (b : Nat) (s : S) (w : World) (q : Q) (hq : QAt w b q) (hn : q.n < q.of) (hep : s.epoch = q.ep) :
    Calls Try.prog 20 #[.pointer (some ⟨b, 0, none⟩), .agg #[.int .u64 s.pc, .int .u32 s.bits, .int .i64 s.fault, .int .u64 s.next, .int .i64 s.epoch]] w fun e w' => e = .returned (.int .i64 0) ∧ w.grownBy w' (some b) ∧ QAt w' b (q.push s) := by
  have hlt := hq.lt
  have h1 := hq.h
  have n1 := hq.n
  have o1 := hq.of
  have c80 := hq.c80
  have c81 := hq.c81
  have c82 := hq.c82
  have c83 := hq.c83
  rw [← hep] at c83
  have f := hq.cells.free
  obtain ⟨c0, c1, c2, c3, c4⟩ := hq.slot ((q.h + q.n) % 16) (by omega)
  have HQ := hide hq
  clear hq hep
  go_enter Try.func20, Try.ntmps20
  go_wp2
  go_quiet (fail)
  go_wp2
  go_quiet (fail)
  go_wp2
  go_region
  go_wp2
  go_ret
  refine ⟨rfl, ?_, ?_⟩
  · repeat (first | (with_reducible exact World.grownBy.refl _ _) | (with_reducible refine only_setCell ?_ (.inl rfl) _) | (with_reducible refine only_drewN ?_ _) | (with_reducible refine only_drew ?_) | (with_reducible refine only_alloc ?_ _) | (with_reducible refine only_setCell ?_ (.inr (by simp)) _))
  · with_reducible exact ((HQ.out.alloc _).drewN _).push s hn

theorem push_form (b : Nat) (s : S) (w : World) (q : Q) (hq : QAt w b q) (hep : s.epoch ≠ q.ep) :
    Calls Try.prog 20 #[.pointer (some ⟨b, 0, none⟩), .agg #[.int .u64 s.pc, .int .u32 s.bits, .int .i64 s.fault, .int .u64 s.next, .int .i64 s.epoch]] w fun e w' => e = .returned (.int .i64 7) ∧ w.grownBy w' none ∧ QAt w' b q := by
  have hlt := hq.lt
  have c83 := hq.c83
  have HQ := hide hq
  clear hq
  go_enter Try.func20, Try.ntmps20
  go_wp2
  go_quiet (fail)
  go_wp2
  go_ret
  refine ⟨rfl, HQ.out.and ?_⟩
  repeat (first | (with_reducible exact World.grownBy.refl _ _) | (with_reducible refine only_setCell ?_ (.inl rfl) _) | (with_reducible refine only_drewN ?_ _) | (with_reducible refine only_drew ?_) | (with_reducible refine only_alloc ?_ _) | (with_reducible refine only_setCell ?_ (.inr (by simp)) _))

theorem push_full (b : Nat) (s : S) (w : World) (q : Q) (hq : QAt w b q) (hep : s.epoch = q.ep) (hn : q.n = q.of) :
    Calls Try.prog 20 #[.pointer (some ⟨b, 0, none⟩), .agg #[.int .u64 s.pc, .int .u32 s.bits, .int .i64 s.fault, .int .u64 s.next, .int .i64 s.epoch]] w fun e w' => e = .returned (.int .i64 3) ∧ w.grownBy w' none ∧ QAt w' b q := by
  have hlt := hq.lt
  have c81 := hq.c81
  have c82 := hq.c82
  have c83 := hq.c83
  rw [← hep] at c83
  rw [← hn] at c82
  have HQ := hide hq
  clear hq hep hn
  go_enter Try.func20, Try.ntmps20
  go_wp2
  go_quiet (fail)
  go_wp2
  go_quiet (fail)
  go_wp2
  go_ret
  refine ⟨rfl, HQ.out.and ?_⟩
  repeat (first | (with_reducible exact World.grownBy.refl _ _) | (with_reducible refine only_setCell ?_ (.inl rfl) _) | (with_reducible refine only_drewN ?_ _) | (with_reducible refine only_drew ?_) | (with_reducible refine only_alloc ?_ _) | (with_reducible refine only_setCell ?_ (.inr (by simp)) _))

theorem len_any (b : Nat) (w : World) (q : Q) (hq : QAt w b q) :
    Calls Try.prog 21 #[.pointer (some ⟨b, 0, none⟩)] w fun e w' => e = .returned (.int .i64 q.n) ∧ w = w' := by
  have hlt := hq.lt
  have c81 := hq.c81
  clear hq
  go_enter Try.func21, Try.ntmps21
  go_wp2
  go_ret
  exact ⟨rfl, rfl⟩

theorem epoch_any (b : Nat) (w : World) (q : Q) (hq : QAt w b q) :
    Calls Try.prog 24 #[.pointer (some ⟨b, 0, none⟩)] w fun e w' => e = .returned (.int .i64 q.ep) ∧ w = w' := by
  have hlt := hq.lt
  have c83 := hq.c83
  clear hq
  go_enter Try.func24, Try.ntmps24
  go_wp2
  go_ret
  exact ⟨rfl, rfl⟩

theorem room_any (b : Nat) (w : World) (q : Q) (hq : QAt w b q) :
    Calls Try.prog 19 #[.pointer (some ⟨b, 0, none⟩)] w fun e w' => e = .returned (.int .i64 ((q.of : Int) - q.n)) ∧ ∃ k, w' = w.drewN k := by
  have hlt := hq.lt
  have n1 := hq.n
  have o1 := hq.of
  have c81 := hq.c81
  have c82 := hq.c82
  clear hq
  go_enter Try.func19, Try.ntmps19
  go_wp2
  go_quiet (fail)
  go_wp2
  go_ret
  exact ⟨rfl, _, rfl⟩

theorem squash_any (b : Nat) (w : World) (q : Q) (hq : QAt w b q) (he : q.ep ≤ 4294967296) :
    Calls Try.prog 23 #[.pointer (some ⟨b, 0, none⟩)] w fun e w' => e = .returned (.int .i64 q.n) ∧ w.grownBy w' (some b) ∧ QAt w' b q.squash := by
  have hlt := hq.lt
  have c80 := hq.c80
  have c81 := hq.c81
  have c83 := hq.c83
  have f := hq.cells.free
  have HQ := hide hq
  clear hq
  go_enter Try.func23, Try.ntmps23
  go_wp2
  go_ret
  refine ⟨rfl, ?_, ?_⟩
  · repeat (first | (with_reducible exact World.grownBy.refl _ _) | (with_reducible refine only_setCell ?_ (.inl rfl) _) | (with_reducible refine only_drewN ?_ _) | (with_reducible refine only_drew ?_) | (with_reducible refine only_alloc ?_ _) | (with_reducible refine only_setCell ?_ (.inr (by simp)) _))
  · with_reducible exact HQ.out.squash

theorem peek_no (b : Nat) (w : World) (q : Q) (hq : QAt w b q) (hn : q.n = 0) :
    Calls Try.prog 30 #[.pointer (some ⟨b, 0, none⟩)] w fun e w' => e = .returned (.tuple #[.agg #[.int .u64 0, .int .u32 0, .int .i64 0, .int .u64 0, .int .i64 0], .bool false]) ∧ w.grownBy w' none ∧ QAt w' b q := by
  have hlt := hq.lt
  have c81 := hq.c81
  rw [hn] at c81
  have HQ := hide hq
  clear hq hn
  go_enter Try.func30, Try.ntmps30
  go_wp2
  go_returns
  refine ⟨rfl, HQ.out.and ?_⟩
  repeat (first | (with_reducible exact World.grownBy.refl _ _) | (with_reducible refine only_setCell ?_ (.inl rfl) _) | (with_reducible refine only_drewN ?_ _) | (with_reducible refine only_drew ?_) | (with_reducible refine only_alloc ?_ _) | (with_reducible refine only_setCell ?_ (.inr (by simp)) _))

theorem peek_yes (b : Nat) (w : World) (q : Q) (hq : QAt w b q) (hn : 0 < q.n) :
    Calls Try.prog 30 #[.pointer (some ⟨b, 0, none⟩)] w fun e w' => e = .returned (.tuple #[.agg #[.int .u64 (q.r q.h).pc, .int .u32 (q.r q.h).bits, .int .i64 (q.r q.h).fault, .int .u64 (q.r q.h).next, .int .i64 (q.r q.h).epoch], .bool true]) ∧ w.grownBy w' none ∧ QAt w' b q := by
  have hlt := hq.lt
  have h1 := hq.h
  have n1 := hq.n
  have o1 := hq.of
  have c80 := hq.c80
  have c81 := hq.c81
  obtain ⟨c0, c1, c2, c3, c4⟩ := hq.slot q.h h1
  have hne : ((q.n : Int) == 0) = false := by simp; omega
  have HQ := hide hq
  clear hq
  go_enter Try.func30, Try.ntmps30
  go_wp2
  go_region
  go_wp2
  go_returns
  refine ⟨rfl, HQ.out.and ?_⟩
  repeat (first | (with_reducible exact World.grownBy.refl _ _) | (with_reducible refine only_setCell ?_ (.inl rfl) _) | (with_reducible refine only_drewN ?_ _) | (with_reducible refine only_drew ?_) | (with_reducible refine only_alloc ?_ _) | (with_reducible refine only_setCell ?_ (.inr (by simp)) _))


end Go.Proofs.Ytkjgklpdoomjcaa

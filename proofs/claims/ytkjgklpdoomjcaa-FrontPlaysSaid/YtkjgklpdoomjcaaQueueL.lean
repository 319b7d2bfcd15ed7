/- The queue over a list of slots: what waits, in order; each method by a contract over that list. -/
import Derived.Test.YtkjgklpdoomjcaaQueueB
namespace Go.Proofs.Ytkjgklpdoomjcaa
open Go.RowKit

def Q.items (q : Q) : List S := (List.range q.n).map fun i => q.r ((q.h + i) % 16)

theorem items_length (q : Q) : q.items.length = q.n := by simp [Q.items]
theorem items_push (q : Q) (s : S) (hn : q.n < 16) : (q.push s).items = q.items ++ [s] := by
  unfold Q.items Q.push
  simp only []
  rw [List.range_succ, List.map_append, List.map_singleton, if_pos rfl]
  congr 1
  refine List.map_congr_left fun i hi => ?_
  have := List.mem_range.1 hi
  rw [if_neg (by omega)]
theorem items_pop (q : Q) (hh : q.h < 16) (hn : 0 < q.n) : q.items = q.r q.h :: q.pop.items := by
  unfold Q.items Q.pop
  simp only []
  obtain ⟨m, hm⟩ : ∃ m, q.n = m + 1 := ⟨q.n - 1, by omega⟩
  rw [hm, List.range_succ_eq_map, List.map_cons, List.map_map, Nat.add_sub_cancel]
  congr 1
  · rw [show (q.h + 0) % 16 = q.h by omega]
  · refine List.map_congr_left fun i _ => ?_
    show q.r ((q.h + (i + 1)) % 16) = q.r (((q.h + 1) % 16 + i) % 16)
    rw [show (q.h + (i + 1)) % 16 = ((q.h + 1) % 16 + i) % 16 by omega]
theorem items_squash (q : Q) : q.squash.items = [] := rfl
theorem items_new (n : Nat) : (Q.new n).items = [] := rfl
theorem any_items (q : Q) (p : S → Bool) : q.items.any p = (List.range q.n).any fun i => p (q.r ((q.h + i) % 16)) := by
  unfold Q.items
  rw [List.any_map]
  rfl

/-- In block b lies a queue: what waits is l, in order; it has 'of' places; the epoch is ep. -/
def QL (w : World) (b : Nat) (l : List S) (of ep : Nat) : Prop := ∃ q, QAt w b q ∧ q.items = l ∧ q.of = of ∧ q.ep = ep

theorem QL.len {w : World} {b : Nat} {l : List S} {of ep : Nat} (h : QL w b l of ep) : l.length ≤ of ∧ of ≤ 16 := by
  obtain ⟨q, hq, rfl, rfl, rfl⟩ := h
  rw [items_length]
  exact ⟨hq.n, hq.of⟩
theorem QL.lt {w : World} {b : Nat} {l : List S} {of ep : Nat} (h : QL w b l of ep) : b < w.heap.size := by
  obtain ⟨q, hq, _⟩ := h
  exact hq.lt
theorem QL.drewN {w : World} {b : Nat} {l : List S} {of ep : Nat} (h : QL w b l of ep) (k : Nat) : QL (w.drewN k) b l of ep := by
  obtain ⟨q, hq, r⟩ := h
  exact ⟨q, hq.drewN k, r⟩
theorem QL.drew {w : World} {b : Nat} {l : List S} {of ep : Nat} (h : QL w b l of ep) : QL w.drew b l of ep := by
  obtain ⟨q, hq, r⟩ := h
  exact ⟨q, hq.drew, r⟩
theorem QL.alloc {w : World} {b : Nat} {l : List S} {of ep : Nat} (h : QL w b l of ep) (o : Obj) : QL (w.alloc o) b l of ep := by
  obtain ⟨q, hq, r⟩ := h
  exact ⟨q, hq.alloc o, r⟩
theorem QL.other {w : World} {b : Nat} {l : List S} {of ep : Nat} (h : QL w b l of ep) (a : Addr) (hne : b ≠ a.block) (v : Value) : QL (w.setCell a v) b l of ep := by
  obtain ⟨q, hq, r⟩ := h
  exact ⟨q, hq.other a hne v, r⟩
theorem QL.grown {w w' : World} {b : Nat} {l : List S} {of ep : Nat} (h : QL w b l of ep) {row : Option Nat} (g : w.grownBy w' row) (hne : some b ≠ row) : QL w' b l of ep := by
  obtain ⟨q, hq, r⟩ := h
  exact ⟨q, hq.grown g hne, r⟩

section
variable {w : World} {b of ep : Nat} {l : List S}

theorem lpush_ok (s : S) (h : QL w b l of ep) (hn : l.length < of) (he : s.epoch = ep) :
    Calls Try.prog 20 #[.pointer (some ⟨b, 0, none⟩), .agg #[.int .u64 s.pc, .int .u32 s.bits, .int .i64 s.fault, .int .u64 s.next, .int .i64 s.epoch]] w fun e w' => e = .returned (.int .i64 0) ∧ w.grownBy w' (some b) ∧ QL w' b (l ++ [s]) of ep := by
  have hl := h.len
  obtain ⟨q, hq, rfl, rfl, rfl⟩ := h
  rw [items_length] at hn hl
  exact (push_ok b s w q hq hn he).mono fun _ _ ⟨h1, h2, h3⟩ => ⟨h1, h2, q.push s, h3, items_push q s (by omega), rfl, rfl⟩
theorem lpush_full (s : S) (h : QL w b l of ep) (hn : l.length = of) (he : s.epoch = ep) :
    Calls Try.prog 20 #[.pointer (some ⟨b, 0, none⟩), .agg #[.int .u64 s.pc, .int .u32 s.bits, .int .i64 s.fault, .int .u64 s.next, .int .i64 s.epoch]] w fun e w' => e = .returned (.int .i64 3) ∧ w.grownBy w' none ∧ QL w' b l of ep := by
  obtain ⟨q, hq, rfl, rfl, rfl⟩ := h
  rw [items_length] at hn
  exact (push_full b s w q hq he hn).mono fun _ _ ⟨h1, h2, h3⟩ => ⟨h1, h2, q, h3, rfl, rfl, rfl⟩
theorem lpush_form (s : S) (h : QL w b l of ep) (he : s.epoch ≠ ep) :
    Calls Try.prog 20 #[.pointer (some ⟨b, 0, none⟩), .agg #[.int .u64 s.pc, .int .u32 s.bits, .int .i64 s.fault, .int .u64 s.next, .int .i64 s.epoch]] w fun e w' => e = .returned (.int .i64 7) ∧ w.grownBy w' none ∧ QL w' b l of ep := by
  obtain ⟨q, hq, rfl, rfl, rfl⟩ := h
  exact (push_form b s w q hq he).mono fun _ _ ⟨h1, h2, h3⟩ => ⟨h1, h2, q, h3, rfl, rfl, rfl⟩
theorem llen (h : QL w b l of ep) : Calls Try.prog 21 #[.pointer (some ⟨b, 0, none⟩)] w fun e w' => e = .returned (.int .i64 l.length) ∧ w = w' := by
  obtain ⟨q, hq, rfl, rfl, rfl⟩ := h
  rw [items_length]
  exact len_any b w q hq
theorem lepoch (h : QL w b l of ep) : Calls Try.prog 24 #[.pointer (some ⟨b, 0, none⟩)] w fun e w' => e = .returned (.int .i64 ep) ∧ w = w' := by
  obtain ⟨q, hq, rfl, rfl, rfl⟩ := h
  exact epoch_any b w q hq
theorem lroom (h : QL w b l of ep) : Calls Try.prog 19 #[.pointer (some ⟨b, 0, none⟩)] w fun e w' => e = .returned (.int .i64 ((of : Int) - l.length)) ∧ ∃ k, w' = w.drewN k := by
  obtain ⟨q, hq, rfl, rfl, rfl⟩ := h
  rw [items_length]
  exact room_any b w q hq
theorem lsquash (h : QL w b l of ep) (he : ep ≤ 4294967296) : Calls Try.prog 23 #[.pointer (some ⟨b, 0, none⟩)] w fun e w' => e = .returned (.int .i64 l.length) ∧ w.grownBy w' (some b) ∧ QL w' b [] of (ep + 1) := by
  obtain ⟨q, hq, rfl, rfl, rfl⟩ := h
  rw [items_length]
  exact (squash_any b w q hq he).mono fun _ _ ⟨h1, h2, h3⟩ => ⟨h1, h2, q.squash, h3, rfl, rfl, rfl⟩
theorem lpeek_no (h : QL w b [] of ep) : Calls Try.prog 30 #[.pointer (some ⟨b, 0, none⟩)] w fun e w' => e = .returned (.tuple #[.agg #[.int .u64 0, .int .u32 0, .int .i64 0, .int .u64 0, .int .i64 0], .bool false]) ∧ w.grownBy w' none ∧ QL w' b [] of ep := by
  obtain ⟨q, hq, hl, rfl, rfl⟩ := h
  have hn := items_length q
  rw [hl] at hn
  exact (peek_no b w q hq hn.symm).mono fun _ _ ⟨h1, h2, h3⟩ => ⟨h1, h2, q, h3, hl, rfl, rfl⟩
theorem lpeek_yes {s : S} (h : QL w b (s :: l) of ep) : Calls Try.prog 30 #[.pointer (some ⟨b, 0, none⟩)] w fun e w' => e = .returned (.tuple #[.agg #[.int .u64 s.pc, .int .u32 s.bits, .int .i64 s.fault, .int .u64 s.next, .int .i64 s.epoch], .bool true]) ∧ w.grownBy w' none ∧ QL w' b (s :: l) of ep := by
  obtain ⟨q, hq, hl, rfl, rfl⟩ := h
  have hn := items_length q
  rw [hl, List.length_cons] at hn
  have hp := items_pop q hq.h (by omega)
  rw [hl] at hp
  injection hp with h1 h2
  subst h1
  exact (peek_yes b w q hq (by omega)).mono fun _ _ ⟨h1, h2, h3⟩ => ⟨h1, h2, q, h3, hl, rfl, rfl⟩
theorem lpop_no (h : QL w b [] of ep) : Calls Try.prog 22 #[.pointer (some ⟨b, 0, none⟩)] w fun e w' => e = .returned (.tuple #[.agg #[.int .u64 0, .int .u32 0, .int .i64 0, .int .u64 0, .int .i64 0], .bool false]) ∧ w.grownBy w' none ∧ QL w' b [] of ep := by
  obtain ⟨q, hq, hl, rfl, rfl⟩ := h
  have hn := items_length q
  rw [hl] at hn
  exact (pop_no b w q hq hn.symm).mono fun _ _ ⟨h1, h2, h3⟩ => ⟨h1, h2, q, h3, hl, rfl, rfl⟩
theorem lpop_yes {s : S} (h : QL w b (s :: l) of ep) : Calls Try.prog 22 #[.pointer (some ⟨b, 0, none⟩)] w fun e w' => e = .returned (.tuple #[.agg #[.int .u64 s.pc, .int .u32 s.bits, .int .i64 s.fault, .int .u64 s.next, .int .i64 s.epoch], .bool true]) ∧ w.grownBy w' (some b) ∧ QL w' b l of ep := by
  obtain ⟨q, hq, hl, rfl, rfl⟩ := h
  have hn := items_length q
  rw [hl, List.length_cons] at hn
  have hp := items_pop q hq.h (by omega)
  rw [hl] at hp
  injection hp with h1 h2
  subst h1
  exact (pop_yes b w q hq (by omega)).mono fun _ _ ⟨h1, h3, h4⟩ => ⟨h1, h3, q.pop, h4, h2.symm, rfl, rfl⟩
theorem lholds (lo hi : Int) (h : QL w b l of ep) : Calls Try.prog 31 #[.pointer (some ⟨b, 0, none⟩), .int .u64 lo, .int .u64 hi] w fun e w' => e = .returned (.bool (l.any fun s => inR lo hi s.pc)) ∧ ∃ k, w' = w.drewN k := by
  obtain ⟨q, hq, rfl, rfl, rfl⟩ := h
  rw [any_items]
  exact holds_any b lo hi w q hq
theorem lnew (n : Nat) (w : World) (h1 : 1 ≤ n) (h2 : n ≤ 16) :
    Calls Try.prog 17 #[.int .i64 n] w fun e w' => e = .returned (.tuple #[.pointer (some ⟨w.heap.size, 0, none⟩), .int .i64 0]) ∧ w.grownBy w' none ∧ w.heap.size < w'.heap.size ∧ QL w' w.heap.size [] n 0 :=
  (new_ok n w h1 h2).mono fun _ _ ⟨a, b, c, d⟩ => ⟨a, b, c, Q.new n, d, rfl, rfl, rfl⟩
end

/-! ### A nil queue -/
theorem push_nil (s : S) (w : World) : Calls Try.prog 20 #[.pointer none, .agg #[.int .u64 s.pc, .int .u32 s.bits, .int .i64 s.fault, .int .u64 s.next, .int .i64 s.epoch]] w fun e w' => e = .returned (.int .i64 2) ∧ w.grownBy w' none := by
  go_enter Try.func20, Try.ntmps20
  go_wp2
  go_ret
  exact ⟨rfl, only_alloc (World.grownBy.refl _ _) _⟩
theorem len_nil (w : World) : Calls Try.prog 21 #[.pointer none] w fun e w' => e = .returned (.int .i64 0) ∧ w = w' := by
  go_enter Try.func21, Try.ntmps21
  go_wp2
  go_ret
  exact ⟨rfl, rfl⟩
theorem room_nil (w : World) : Calls Try.prog 19 #[.pointer none] w fun e w' => e = .returned (.int .i64 0) ∧ w = w' := by
  go_enter Try.func19, Try.ntmps19
  go_wp2
  go_ret
  exact ⟨rfl, rfl⟩
theorem epoch_nil (w : World) : Calls Try.prog 24 #[.pointer none] w fun e w' => e = .returned (.int .i64 0) ∧ w = w' := by
  go_enter Try.func24, Try.ntmps24
  go_wp2
  go_ret
  exact ⟨rfl, rfl⟩
theorem squash_nil (w : World) : Calls Try.prog 23 #[.pointer none] w fun e w' => e = .returned (.int .i64 0) ∧ w = w' := by
  go_enter Try.func23, Try.ntmps23
  go_wp2
  go_ret
  exact ⟨rfl, rfl⟩
theorem holds_nil (lo hi : Int) (w : World) : Calls Try.prog 31 #[.pointer none, .int .u64 lo, .int .u64 hi] w fun e w' => e = .returned (.bool false) ∧ w = w' := by
  have LEN := hide (len_nil w)
  go_enter Try.func31, Try.ntmps31
  go_wp2_with (go_at_call 21; refine (LEN.out).mono ?_; rintro e w' ⟨rfl, rfl⟩)
  refine wp_loop_rounds 1 ?_
  rw [rounds_succ]
  go_wp2
  go_ret
  exact ⟨rfl, rfl⟩
theorem peek_nil (w : World) : Calls Try.prog 30 #[.pointer none] w fun e w' => e = .returned (.tuple #[.agg #[.int .u64 0, .int .u32 0, .int .i64 0, .int .u64 0, .int .i64 0], .bool false]) ∧ w.grownBy w' none := by
  go_enter Try.func30, Try.ntmps30
  go_wp2
  go_returns
  exact ⟨rfl, only_alloc (World.grownBy.refl _ _) _⟩
theorem pop_nil (w : World) : Calls Try.prog 22 #[.pointer none] w fun e w' => e = .returned (.tuple #[.agg #[.int .u64 0, .int .u32 0, .int .i64 0, .int .u64 0, .int .i64 0], .bool false]) ∧ w.grownBy w' none := by
  go_enter Try.func22, Try.ntmps22
  go_wp2_with fail
  refine (peek_nil _).mono ?_
  rintro e w1 ⟨rfl, hg⟩
  obtain ⟨b0, b1, b2, b3, b4, bf, hz⟩ := box5 hg (by simp)
  have HG := hide (only_past hg)
  clear hg
  simp only []
  repeat' (first | go_values | go_skip | go_guarded | go_step | go_upon)
  refine bodyPost_ret (v := .tuple #[.agg #[.int .u64 0, .int .u32 0, .int .i64 0, .int .u64 0, .int .i64 0], .bool false]) (by simp [results, Try.results22, go_sem, b0, b1, b2, b3, b4, hz]) rfl ?_
  refine ⟨rfl, ?_⟩
  have hg := HG.out
  repeat (first | (with_reducible assumption) | (with_reducible refine only_drew ?_) | (with_reducible refine only_alloc ?_ _) | (with_reducible refine only_setCell ?_ (.inr (by simp)) _))

/-! ### The statements' own awake -/
set_option maxRecDepth 100000 in
theorem awake22 (w : World) : Calls Try.prog 18 #[] w fun e w' => e = .returned (.bool true) ∧ w.grownBy w' none := by
  go_enter Try.func18, Try.ntmps18
  go_wp2_with fail
  refine (lnew 2 _ (by omega) (by omega)).mono ?_
  rintro e w1 ⟨rfl, hg, hz, hq⟩
  have G1 := hide hg
  have Q1 := hide hq
  clear hg hq
  simp only []
  go_wp2_with fail
  refine (lpush_ok ⟨4, 0, 0, 0, 0⟩ Q1.out (by simp) rfl).mono ?_
  rintro e w2 ⟨rfl, hg, hq⟩
  have hz2 : w.heap.size < w2.heap.size := Nat.lt_of_lt_of_le hz hg.size
  have G2 := hide hg
  have Q2 := hide hq
  clear hg hq
  simp only []
  go_wp2_with fail
  refine (lpeek_yes (l := []) Q2.out).mono ?_
  rintro e w3 ⟨rfl, hg, hq⟩
  have hz3 : w.heap.size < w3.heap.size := Nat.lt_of_lt_of_le hz2 hg.size
  have G3 := hide hg
  have Q3 := hide hq
  clear hg hq
  simp only []
  go_wp2_with fail
  refine (llen (Q3.out.alloc _)).mono ?_
  rintro e w4 ⟨rfl, rfl⟩
  simp only []
  go_wp2
  go_ret
  refine ⟨rfl, ?_⟩
  have g : w.grownBy w3 none := by
    have g12 : w.grownBy w3 (some w.heap.size) := only_trans (only_trans (only_mono G1.out) G2.out) (only_mono G3.out)
    exact ⟨g12.os, g12.tape, g12.output, g12.size, fun k hk _ => g12.block k hk (by simp; omega)⟩
  exact only_alloc g _
/-- A variable that holds a slot. -/
theorem S.box (s : S) (w : World) : CellsAt (w.alloc (.cells #[.int .u64 s.pc, .int .u32 s.bits, .int .i64 s.fault, .int .u64 s.next, .int .i64 s.epoch] 34)) w.heap.size 5 s.c :=
  CellsAt.new w _ 34 5 s.c (by omega) fun o ho => by
    rcases (by omega : o = 0 ∨ o = 1 ∨ o = 2 ∨ o = 3 ∨ o = 4) with rfl | rfl | rfl | rfl | rfl <;> rfl
theorem S.five {s : S} {w : World} {b : Nat} (h : CellsAt w b 5 s.c) : w.cell? ⟨b, 0, none⟩ = some (.int .u64 s.pc) ∧ w.cell? ⟨b, 1, none⟩ = some (.int .u32 s.bits) ∧ w.cell? ⟨b, 2, none⟩ = some (.int .i64 s.fault) ∧ w.cell? ⟨b, 3, none⟩ = some (.int .u64 s.next) ∧ w.cell? ⟨b, 4, none⟩ = some (.int .i64 s.epoch) :=
  ⟨h.cell 0 (by omega), h.cell 1 (by omega), h.cell 2 (by omega), h.cell 3 (by omega), h.cell 4 (by omega)⟩

end Go.Proofs.Ytkjgklpdoomjcaa

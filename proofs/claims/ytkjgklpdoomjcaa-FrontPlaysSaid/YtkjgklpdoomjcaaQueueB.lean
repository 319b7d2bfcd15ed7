/- The queue's Pop, New and Holds, each by a contract. -/
import Derived.Test.YtkjgklpdoomjcaaQueue
namespace Go.Proofs.Ytkjgklpdoomjcaa
open Go.RowKit
theorem pop_no (b : Nat) (w : World) (q : Q) (hq : QAt w b q) (hn : q.n = 0) :
    Calls Try.prog 22 #[.pointer (some ⟨b, 0, none⟩)] w fun e w' => e = .returned (.tuple #[.agg #[.int .u64 0, .int .u32 0, .int .i64 0, .int .u64 0, .int .i64 0], .bool false]) ∧ w.grownBy w' none ∧ QAt w' b q := by
  have hlt := hq.lt
  have PKH := hide fun (W : World) (h : QAt W b q) => peek_no b W q h hn
  have HQ := hide hq
  clear hq hn
  go_enter Try.func22, Try.ntmps22
  go_wp2_with fail
  refine (PKH.out _ (HQ.out.alloc _)).mono ?_
  rintro e w1 ⟨rfl, hg, hq1⟩
  obtain ⟨b0, b1, b2, b3, b4, bf, hz⟩ := box5 hg (by simp)
  have HG := hide (only_past hg)
  clear hg hq1
  simp only []
  repeat' (first | go_values | go_skip | go_guarded | go_step | go_upon)
  refine bodyPost_ret (v := .tuple #[.agg #[.int .u64 0, .int .u32 0, .int .i64 0, .int .u64 0, .int .i64 0], .bool false]) (by simp [results, Try.results22, go_sem, b0, b1, b2, b3, b4, hz]) rfl ?_
  refine ⟨rfl, HQ.out.and ?_⟩
  have hg := HG.out
  repeat (first | (with_reducible exact World.grownBy.refl _ _) | (with_reducible assumption) | (with_reducible refine only_setCell ?_ (.inl rfl) _) | (with_reducible refine only_drewN ?_ _) | (with_reducible refine only_drew ?_) | (with_reducible refine only_alloc ?_ _) | (with_reducible refine only_setCell ?_ (.inr (by simp)) _))

theorem pop_yes (b : Nat) (w : World) (q : Q) (hq : QAt w b q) (hn : 0 < q.n) :
    Calls Try.prog 22 #[.pointer (some ⟨b, 0, none⟩)] w fun e w' => e = .returned (.tuple #[.agg #[.int .u64 (q.r q.h).pc, .int .u32 (q.r q.h).bits, .int .i64 (q.r q.h).fault, .int .u64 (q.r q.h).next, .int .i64 (q.r q.h).epoch], .bool true]) ∧ w.grownBy w' (some b) ∧ QAt w' b q.pop := by
  have hlt := hq.lt
  have hne := Nat.ne_of_lt hlt
  have h1 := hq.h
  have n1 := hq.n
  have o1 := hq.of
  have PKH := hide fun (W : World) (h : QAt W b q) => peek_yes b W q h hn
  have HQ := hide hq
  clear hq
  go_enter Try.func22, Try.ntmps22
  go_wp2_with fail
  refine (PKH.out _ (HQ.out.alloc _)).mono ?_
  rintro e w1 ⟨rfl, hg, hq1⟩
  obtain ⟨b0, b1, b2, b3, b4, bf, hz⟩ := box5 hg (by simp)
  have c80 := hq1.c80
  have c81 := hq1.c81
  have f := hq1.cells.free
  have hlt1 := hq1.lt
  have HG := hide (only_mono (row := some b) (only_past hg))
  have HQ1 := hide hq1
  clear hg hq1
  simp only []
  repeat' (first | go_values | go_skip | go_guarded | go_step | go_upon)
  go_region
  repeat' (first | go_values | go_skip | go_guarded | go_step | go_upon)
  refine bodyPost_ret (v := .tuple #[.agg #[.int .u64 (q.r q.h).pc, .int .u32 (q.r q.h).bits, .int .i64 (q.r q.h).fault, .int .u64 (q.r q.h).next, .int .i64 (q.r q.h).epoch], .bool true]) (by simp [results, Try.results22, go_sem, b0, b1, b2, b3, b4, hz]) rfl ?_
  refine ⟨rfl, ?_, ?_⟩
  · have hg := HG.out
    repeat (first | (with_reducible exact World.grownBy.refl _ _) | (with_reducible assumption) | (with_reducible refine only_setCell ?_ (.inl rfl) _) | (with_reducible refine only_drewN ?_ _) | (with_reducible refine only_drew ?_) | (with_reducible refine only_alloc ?_ _) | (with_reducible refine only_setCell ?_ (.inr (by simp)) _))
  · repeat (first | (with_reducible exact HQ1.out.pop hn) | (with_reducible refine QAt.drew ?_) | (with_reducible refine QAt.alloc ?_ _) | (with_reducible refine QAt.other ?_ ⟨_, _, none⟩ hne _))

def zc : Array Value := ((List.range 84).map fun o => Q.enc ⟨fun _ => S.zero, 0, 0, 0, 0⟩ o).toArray
theorem zero95 (w : World) : (zeroValue 95).run Try.prog w = .ok (.agg zc) w := by kernel_rfl
theorem zc_size : zc.size = 84 := by kernel_rfl

/-- A new queue. -/
def Q.new (of : Nat) : Q := ⟨fun _ => S.zero, 0, 0, of, 0⟩

theorem zc_set (n o : Nat) (ho : o < 84) : (zc.setIfInBounds 82 (.int .i64 n))[o]? = some ((Q.new n).enc o) := by
  rw [Array.getElem?_setIfInBounds, zc_size]
  by_cases e : 82 = o
  · subst e
    simp [Q.enc, Q.new]
  · rw [if_neg e]
    unfold zc
    simp only [List.getElem?_toArray, List.getElem?_map, List.getElem?_range ho, Option.map_some]
    congr 1
    unfold Q.enc Q.new
    simp only []
    by_cases h8 : o < 80
    · rw [if_pos h8, if_pos h8]
    · rw [if_neg h8, if_neg h8]
      have e82 : ¬ o = 82 := fun h => e h.symm
      simp [e82]

set_option maxRecDepth 100000 in
theorem new_ok (n : Nat) (w : World) (h1 : 1 ≤ n) (h2 : n ≤ 16) :
    Calls Try.prog 17 #[.int .i64 n] w fun e w' => e = .returned (.tuple #[.pointer (some ⟨w.heap.size, 0, none⟩), .int .i64 0]) ∧ w.grownBy w' none ∧ w.heap.size < w'.heap.size ∧ QAt w' w.heap.size (Q.new n) := by
  have FIN := hide (CellsAt.new w _ 95 84 (Q.new n).enc (by omega) (zc_set n))
  have z95 := zero95
  have zs : ¬ zc.size < 83 := by rw [zc_size]; omega
  go_enter Try.func17, Try.ntmps17
  go_wp2
  go_returns
  refine ⟨rfl, ?_, ?_, FIN.out, ?_, ?_, ?_⟩
  · repeat (first | (with_reducible exact World.grownBy.refl _ _) | (with_reducible assumption) | (with_reducible refine only_setCell ?_ (.inl rfl) _) | (with_reducible refine only_drewN ?_ _) | (with_reducible refine only_drew ?_) | (with_reducible refine only_alloc ?_ _) | (with_reducible refine only_setCell ?_ (.inr (by simp)) _))
  · simp
  · simp [Q.new]
  · simp [Q.new]
  · simpa [Q.new] using h2

set_option maxRecDepth 100000 in
theorem new_no (n : Int) (w : World) (h1 : n < 1 ∨ 16 < n) :
    Calls Try.prog 17 #[.int .i64 n] w fun e w' => e = .returned (.tuple #[.pointer none, .int .i64 1]) ∧ w' = w := by
  rcases h1 with h1 | h1
  · go_enter Try.func17, Try.ntmps17
    go_wp2
    go_returns
    exact ⟨rfl, rfl⟩
  · have h0 : ¬ n < 1 := by omega
    go_enter Try.func17, Try.ntmps17
    go_wp2
    go_returns
    exact ⟨rfl, rfl⟩

def inR (lo hi pc : Int) : Bool := decide (lo ≤ pc) && decide (pc < hi)

set_option maxRecDepth 100000 in
theorem holds_any (b : Nat) (lo hi : Int) (w : World) (q : Q) (hq : QAt w b q) :
    Calls Try.prog 31 #[.pointer (some ⟨b, 0, none⟩), .int .u64 lo, .int .u64 hi] w fun e w' => e = .returned (.bool ((List.range q.n).any fun i => inR lo hi (q.r ((q.h + i) % 16)).pc)) ∧ ∃ k, w' = w.drewN k := by
  have hlt := hq.lt
  have h1 := hq.h
  have n1 := hq.n
  have o1 := hq.of
  have LEN := hide (len_any b w q hq)
  have c80 := hq.c80
  have HQ := hide hq
  have YES := hide fun (k : Nat) (hk : k < q.n) (hp : inR lo hi (q.r ((q.h + k) % 16)).pc = true) => show ((List.range q.n).any fun i => inR lo hi (q.r ((q.h + i) % 16)).pc) = true from List.any_eq_true.2 ⟨k, List.mem_range.2 hk, hp⟩
  have NO := hide fun (hp : ∀ i, i < q.n → inR lo hi (q.r ((q.h + i) % 16)).pc = false) => show ((List.range q.n).any fun i => inR lo hi (q.r ((q.h + i) % 16)).pc) = false from List.any_eq_false.2 (fun x hx => by simp [hp x (List.mem_range.1 hx)])
  clear hq
  generalize ((List.range q.n).any fun i => inR lo hi (q.r ((q.h + i) % 16)).pc) = res at *
  go_enter Try.func31, Try.ntmps31
  go_wp2_with (go_at_call 21; refine (LEN.out).mono ?_; rintro e w' ⟨rfl, rfl⟩)
  go_loopw [11] (fun i wr => ∃ k : Nat, k ≤ q.n ∧ i = .int .i64 k ∧ (∃ m, wr = w.drewN m) ∧ Hid (∀ j, j < k → inR lo hi (q.r ((q.h + j) % 16)).pc = false)) (fun i _ => q.n - (intOf i).toNat)
  case atStart => exact ⟨0, Nat.zero_le _, rfl, ⟨0, rfl⟩, fun j hj => by omega⟩
  case round =>
    obtain ⟨k, hk, rfl, ⟨m, rfl⟩, hall⟩ := hrel
    by_cases hkn : k < q.n
    · obtain ⟨c0, -, -, -, -⟩ := HQ.out.slot ((q.h + k) % 16) (by omega)
      by_cases ha : lo ≤ (q.r ((q.h + k) % 16)).pc
      · by_cases hb : (q.r ((q.h + k) % 16)).pc < hi
        · have P := hide (YES.out k hkn (by simp [inR, ha, hb]))
          go_wp2
          go_quiet (fail)
          go_wp2
          go_ret
          exact ⟨by rw [P.out]; rfl, _, rfl⟩
        · have P := hide (show inR lo hi (q.r ((q.h + k) % 16)).pc = false by simp [inR, hb])
          go_wp2
          go_quiet (fail)
          go_wp2
          go_roundw
          case rel => exact ⟨k + 1, by omega, by go_num, ⟨_, rfl⟩, fun j hj => by
            by_cases e : j = k
            · rw [e]; exact P.out
            · exact hall.out j (by omega)⟩
          case measure => simp [intOf]; omega
      · have P := hide (show inR lo hi (q.r ((q.h + k) % 16)).pc = false by simp [inR, ha])
        go_wp2
        go_quiet (fail)
        go_wp2
        go_roundw
        case rel => exact ⟨k + 1, by omega, by go_num, ⟨_, rfl⟩, fun j hj => by
          by_cases e : j = k
          · rw [e]; exact P.out
          · exact hall.out j (by omega)⟩
        case measure => simp [intOf]; omega
    · obtain rfl : k = q.n := by omega
      go_wp2
      go_ret
      exact ⟨by rw [NO.out hall.out]; rfl, _, rfl⟩
end Go.Proofs.Ytkjgklpdoomjcaa

/- The predictor's New, by a contract over its state. -/
import Derived.Test.YtkjgklpdoomjcaaPredM
import Derived.Deep.LoopGhost
namespace Go.Proofs.Ytkjgklpdoomjcaa
open Go.RowKit

def zp : Array Value := ((List.range 182).map fun o => if o < 112 then (T.mk false ⟨0, false, false, false, false, 0⟩).c (o % 7) else if o < 177 then .int .i64 0 else if o < 181 then .int .u64 0 else .slice none 0 0).toArray
theorem zero101 (w : World) : (zeroValue 101).run Try.prog w = .ok (.agg zp) w := by kernel_rfl

/-- Where the counters begin. -/
def cinit (seed : Int) (k : Nat) : Nat := seed.toNat / 2 ^ (2 * (k % 32)) % 4
theorem u64_and3 (x : Nat) (hx : x < 18446744073709551616) : bits BinOp.and IntKind.u64 (x : Int) 3 = ((x % 4 : Nat) : Int) := by
  show IntKind.u64.wrap ((BitVec.ofInt 64 (x : Int) &&& BitVec.ofInt 64 ((3 : Nat) : Int)).toNat : Int) = _
  rw [BitVec.toNat_and, BitVec.ofInt_natCast, BitVec.ofInt_natCast, BitVec.toNat_ofNat, BitVec.toNat_ofNat, IntKind.wrap_u64]
  have e : x % 2 ^ 64 &&& 3 % 2 ^ 64 = x % 4 := by
    rw [Nat.mod_eq_of_lt (by omega), Nat.mod_eq_of_lt (by omega)]
    exact Nat.and_two_pow_sub_one_eq_mod x 2
  rw [e]
  omega
theorem cinit_walk (seed : Int) (k : Nat) (h0 : 0 ≤ seed) (h1 : seed < 18446744073709551616) :
    wrap64 (bits BinOp.and IntKind.u64 (seed / 2 ^ (2 * (k % 32))) 3) = (cinit seed k : Int) := by
  obtain ⟨n, rfl⟩ := Int.eq_ofNat_of_zero_le h0
  have e : ((n : Int) / 2 ^ (2 * (k % 32))) = ((n / 2 ^ (2 * (k % 32)) : Nat) : Int) := by
    rw [Int.natCast_ediv, Int.natCast_pow]; rfl
  have hle : n / 2 ^ (2 * (k % 32)) ≤ n := Nat.div_le_self _ _
  rw [e, u64_and3 _ (by omega)]
  have : n / 2 ^ (2 * (k % 32)) % 4 < 4 := Nat.mod_lt _ (by omega)
  unfold wrap64 cinit
  rw [Int.toNat_natCast]
  omega
theorem cinit_le (seed : Int) (k : Nat) : cinit seed k ≤ 3 := by
  have : cinit seed k < 4 := Nat.mod_lt _ (by omega)
  omega

/-- Some of the counters have begun. -/
def P.part (seed : Int) (k : Nat) : P := ⟨fun _ => ⟨false, ⟨0, false, false, false, false, 0⟩⟩, fun i => if i < k then cinit seed i else 0, 0, fun _ => 0, 0⟩
/-- A new predictor. -/
def P.new (seed : Int) : P := ⟨fun _ => ⟨false, ⟨0, false, false, false, false, 0⟩⟩, fun i => if i < 64 then cinit seed i else 0, 0, fun _ => 0, 0⟩

theorem zp_part (seed : Int) (b o : Nat) (ho : o < 182) : zp[o]? = some (upd ((P.part seed 0).enc b) 181 (.slice none 0 0) o) := by
  unfold zp
  simp only [List.getElem?_toArray, List.getElem?_map, List.getElem?_range ho, Option.map_some]
  congr 1
  unfold upd P.enc P.part
  simp only []
  by_cases e : o = 181
  · subst e; rfl
  · rw [if_neg e]
    by_cases h1 : o < 112
    · rw [if_pos h1, if_pos h1]
    · rw [if_neg h1, if_neg h1]
      by_cases h2 : o < 176
      · rw [if_pos (by omega), if_pos h2, if_neg (by omega)]; rfl
      · rw [if_neg h2]
        by_cases h3 : o = 176
        · rw [if_pos (by omega), if_pos h3]; rfl
        · rw [if_neg (by omega), if_pos (by omega), if_neg h3, if_pos (by omega)]
theorem part_step (seed : Int) (b k : Nat) (hk : k < 64) (o : Nat) :
    upd (upd ((P.part seed k).enc b) 181 (.slice none 0 0)) (112 + k) (.int .i64 (cinit seed k)) o = upd ((P.part seed (k + 1)).enc b) 181 (.slice none 0 0) o := by
  unfold upd P.enc P.part
  simp only []
  by_cases e : o = 112 + k
  · subst e
    rw [if_pos rfl, if_neg (by omega), if_neg (by omega), if_pos (by omega), if_pos (by omega)]
    rw [show 112 + k - 112 = k by omega]
  · rw [if_neg e]
    by_cases e1 : o = 181
    · rw [if_pos e1, if_pos e1]
    · rw [if_neg e1, if_neg e1]
      by_cases h1 : o < 112
      · rw [if_pos h1, if_pos h1]
      · rw [if_neg h1, if_neg h1]
        by_cases h2 : o < 176
        · rw [if_pos h2, if_pos h2]
          by_cases h3 : o - 112 < k
          · rw [if_pos h3, if_pos (by omega)]
          · rw [if_neg h3, if_neg (by omega)]
        · rw [if_neg h2, if_neg h2]
theorem part_end (seed : Int) (b o : Nat) (ho : o < 182) :
    upd (upd ((P.part seed 64).enc b) 181 (.slice none 0 0)) 181 (.slice (some ⟨b, 177, none⟩) 0 4) o = (P.new seed).enc b o := by
  unfold upd
  by_cases e1 : o = 181
  · subst e1; rfl
  · rw [if_neg e1, if_neg e1]; rfl

def NP (w : World) (seed : Int) (e : Ending) (w' : World) : Prop := e = .returned (.pointer (some ⟨w.heap.size, 0, none⟩)) ∧ w.grownBy w' none ∧ w.heap.size < w'.heap.size ∧ PAt w' w.heap.size (P.new seed)

set_option linter.unusedVariables false in
set_option maxRecDepth 100000 in
theorem pnew_any (seed : Int) (w : World) (h0 : 0 ≤ seed) (h1 : seed < 18446744073709551616) : Calls Try.prog 25 #[.int .u64 seed] w (NP w seed) := by
  have z := zero101
  have FIN := hide (CellsAt.new w zp 101 182 _ (by omega) fun o ho => zp_part seed w.heap.size o ho)
  go_enter Try.func25, Try.ntmps25
  go_wp2
  go_loopg [7] 64 (fun g vk wr => ∃ k : Nat, k + g = 64 ∧ vk = .int .i64 k ∧ Hid (w.grownBy wr none ∧ CellsAt wr w.heap.size 182 (upd ((P.part seed k).enc w.heap.size) 181 (.slice none 0 0))))
  case atStart => exact ⟨0, by omega, rfl, only_alloc (World.grownBy.refl _ _) _, FIN.out⟩
  case round =>
    obtain ⟨k, hkg, rfl, HW⟩ := hrel
    have hz := HW.out.2.lt
    have f := HW.out.2.free
    by_cases hk : k < 64
    · have hc := HW.out.2.cell (112 + k) (by omega)
      have hci := cinit_walk seed k h0 h1
      generalize upd ((P.part seed k).enc w.heap.size) 181 (.slice none 0 0) (112 + k) = v at hc
      go_wp2
      go_region
      go_wp2
      go_roundg (64 - (k + 1))
      case measure => omega
      case rel =>
        refine ⟨k + 1, by omega, by go_num, ?_, ?_⟩
        · exact only_drew (only_setCell HW.out.1 (.inr (Nat.le_refl _)) _)
        · exact ((HW.out.2.set _ _).congr fun o _ => part_step seed _ k hk o).drew
    · obtain rfl : k = 64 := by omega
      have hc := HW.out.2.cell 181 (by omega)
      generalize upd ((P.part seed 64).enc w.heap.size) 181 (.slice none 0 0) 181 = v at hc
      go_wp2
      go_ret
      refine ⟨rfl, only_setCell HW.out.1 (.inr (Nat.le_refl _)) _, by simpa [World.setCell] using hz, (HW.out.2.set _ _).congr fun o ho => part_end seed _ o ho, ?_, ?_, ?_⟩
      · simp [P.new]
      · simp [P.new]
      · intro k
        show (if k < 64 then cinit seed k else 0) ≤ 3
        split
        · exact cinit_le seed k
        · omega
end Go.Proofs.Ytkjgklpdoomjcaa

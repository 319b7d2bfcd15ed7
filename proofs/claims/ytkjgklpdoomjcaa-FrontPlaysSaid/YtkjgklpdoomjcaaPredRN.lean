/- The document's predictor: New, by a contract over its state. -/
import Derived.Test.YtkjgklpdoomjcaaPredR
import Derived.Deep.LoopGhost
namespace Go.Proofs.Ytkjgklpdoomjcaa
open Go.RowKit
set_option linter.unusedVariables false
set_option linter.unusedSimpArgs false

def zr : Array Value := ((List.range 162).map fun o => if o < 96 then (T.mk false ⟨0, false, false, false, false, 0⟩).ac (o % 6) else if o < 161 then .int .i64 0 else .slice none 0 0).toArray
theorem zero71 (w : World) : (zeroValue 71).run Try.prog w = .ok (.agg zr) w := by kernel_rfl

theorem zr_part (seed : Int) (o : Nat) (ho : o < 162) : zr[o]? = some ((P.part seed 0).renc (.slice none 0 0) o) := by
  unfold zr
  simp only [List.getElem?_toArray, List.getElem?_map, List.getElem?_range ho, Option.map_some]
  congr 1
  unfold P.renc P.part
  simp only []
  by_cases h1 : o < 96
  · rw [if_pos h1, if_pos h1]
  · rw [if_neg h1, if_neg h1]
    by_cases h2 : o < 160
    · rw [if_pos (by omega), if_pos h2, if_neg (by omega)]; rfl
    · rw [if_neg h2]
      by_cases h3 : o = 160
      · rw [if_pos (by omega), if_pos h3]; rfl
      · rw [if_neg (by omega), if_neg h3]
theorem rpart_step (seed : Int) (k : Nat) (hk : k < 64) (o : Nat) :
    upd ((P.part seed k).renc (.slice none 0 0)) (96 + k) (.int .i64 (cinit seed k)) o = (P.part seed (k + 1)).renc (.slice none 0 0) o := by
  unfold upd P.renc P.part
  simp only []
  by_cases e : o = 96 + k
  · subst e
    rw [if_pos rfl, if_neg (by omega), if_pos (by omega), if_pos (by omega)]
    rw [show 96 + k - 96 = k by omega]
  · rw [if_neg e]
    by_cases h1 : o < 96
    · rw [if_pos h1, if_pos h1]
    · rw [if_neg h1, if_neg h1]
      by_cases h2 : o < 160
      · rw [if_pos h2, if_pos h2]
        by_cases h3 : o - 96 < k
        · rw [if_pos h3, if_pos (by omega)]
        · rw [if_neg h3, if_neg (by omega)]
      · rw [if_neg h2, if_neg h2]

def NR (w : World) (seed : Int) (e : Ending) (w' : World) : Prop := e = .returned (.pointer (some ⟨w.heap.size, 0, none⟩)) ∧ w.grownBy w' none ∧ w.heap.size < w'.heap.size ∧ RAt w' w.heap.size none 0 (P.new seed)

set_option maxRecDepth 100000 in
set_option maxHeartbeats 1600000 in
theorem rnew_any (seed : Int) (w : World) (h0 : 0 ≤ seed) (h1 : seed < 18446744073709551616) : Calls Try.prog 34 #[.int .u64 seed] w (NR w seed) := by
  have z := zero71
  have FIN := hide (CellsAt.new w zr 71 162 _ (by omega) fun o ho => zr_part seed o ho)
  go_enter Try.func34, Try.ntmps34
  go_wp2
  go_loopg [4] 64 (fun g vk wr => ∃ k : Nat, k + g = 64 ∧ vk = .int .i64 k ∧ Hid (w.grownBy wr none ∧ CellsAt wr w.heap.size 162 ((P.part seed k).renc (.slice none 0 0))))
  case atStart => exact ⟨0, by omega, rfl, only_alloc (World.grownBy.refl _ _) _, FIN.out⟩
  case round =>
    obtain ⟨k, hkg, rfl, HW⟩ := hrel
    have hz := HW.out.2.lt
    have f := HW.out.2.free
    by_cases hk : k < 64
    · have hc := HW.out.2.cell (96 + k) (by omega)
      have hci := cinit_walk seed k h0 h1
      generalize (P.part seed k).renc (.slice none 0 0) (96 + k) = v at hc
      go_wp2
      go_roundg (64 - (k + 1))
      case measure => omega
      case rel =>
        refine ⟨k + 1, by omega, by go_num, ?_, ?_⟩
        · exact only_setCell HW.out.1 (.inr (Nat.le_refl _)) _
        · exact (HW.out.2.set _ _).congr fun o _ => rpart_step seed k hk o
    · obtain rfl : k = 64 := by omega
      go_wp2
      go_ret
      refine ⟨rfl, HW.out.1, hz, HW.out.2, ?_, ?_, ?_, SL.nil, Apart.none_ _⟩
      · simp [P.new]
      · simp [P.new]
      · intro k
        show (if k < 64 then cinit seed k else 0) ≤ 3
        split
        · exact cinit_le seed k
        · omega
end Go.Proofs.Ytkjgklpdoomjcaa

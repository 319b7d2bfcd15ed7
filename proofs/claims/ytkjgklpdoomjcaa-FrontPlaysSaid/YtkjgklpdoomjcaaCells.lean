/- A block of memory as a function from offsets to values, and worlds that differ in one block alone. Plain theorems about worlds; no program. -/
import Derived.Below
import Derived.Deep.Draws
import Derived.Deep.OwnRows
import Derived.OwnWalk
import Derived.Laws.AppendOwn
namespace Go.Proofs.Ytkjgklpdoomjcaa
open Go.RowKit

theorem hide {p : Prop} (h : p) : Hid p := h

/-- The first N cells of block b hold f; none of its cells is frozen. -/
structure CellsAt (w : World) (b N : Nat) (f : Nat → Value) : Prop where
  pos : 0 < N
  cell : ∀ o, o < N → w.cell? ⟨b, o, none⟩ = some (f o)
  free : ∀ o, w.frozen? ⟨b, o, none⟩ = false

def upd (f : Nat → Value) (p : Nat) (v : Value) : Nat → Value := fun o => if o = p then v else f o

theorem CellsAt.lt {w : World} {b N : Nat} {f : Nat → Value} (h : CellsAt w b N f) : b < w.heap.size := World.block_lt_of_cell? w _ (h.cell 0 h.pos)
theorem CellsAt.drewN {w : World} {b N : Nat} {f : Nat → Value} (h : CellsAt w b N f) (n : Nat) : CellsAt (w.drewN n) b N f := ⟨h.pos, h.cell, h.free⟩
theorem CellsAt.drew {w : World} {b N : Nat} {f : Nat → Value} (h : CellsAt w b N f) : CellsAt w.drew b N f := ⟨h.pos, h.cell, h.free⟩
theorem CellsAt.of_block {w w' : World} {b N : Nat} {f : Nat → Value} (h : CellsAt w b N f) (hb : w'.heap[b]? = w.heap[b]?) : CellsAt w' b N f :=
  ⟨h.pos, fun o ho => (World.cell?_of_block (w := w) (a := ⟨b, o, none⟩) hb).trans (h.cell o ho), fun o => (World.frozen?_of_block (w := w) (a := ⟨b, o, none⟩) hb).trans (h.free o)⟩
theorem CellsAt.alloc {w : World} {b N : Nat} {f : Nat → Value} (h : CellsAt w b N f) (o : Obj) : CellsAt (w.alloc o) b N f := h.of_block (Below.heap_alloc _ _ _ h.lt)
theorem CellsAt.other {w : World} {b N : Nat} {f : Nat → Value} (h : CellsAt w b N f) (a : Addr) (hne : b ≠ a.block) (v : Value) : CellsAt (w.setCell a v) b N f := h.of_block (Below.heap_setCell _ _ _ _ hne)
theorem CellsAt.grown {w w' : World} {b N : Nat} {f : Nat → Value} (h : CellsAt w b N f) {row : Option Nat} (hg : w.grownBy w' row) (hne : some b ≠ row) : CellsAt w' b N f := h.of_block (hg.block b h.lt hne)
theorem CellsAt.below {w w' : World} {b N B : Nat} {f : Nat → Value} (h : CellsAt w b N f) (hg : Below B w w') (hlt : b < B) : CellsAt w' b N f := h.of_block (hg.block b hlt)
theorem CellsAt.set {w : World} {b N : Nat} {f : Nat → Value} (h : CellsAt w b N f) (p : Nat) (v : Value) : CellsAt (w.setCell ⟨b, p, none⟩ v) b N (upd f p v) := by
  refine ⟨h.pos, fun o ho => ?_, fun o => by rw [World.frozen?_setCell]; exact h.free o⟩
  unfold upd
  by_cases e : o = p
  · subst e
    rw [if_pos rfl]
    exact World.cell?_setCell_same (h := h.cell o ho) ..
  · rw [if_neg e, World.cell?_setCell_other (h := by intro e'; injection e' with _ e''; exact e e''.symm)]
    exact h.cell o ho
theorem CellsAt.congr {w : World} {b N : Nat} {f g : Nat → Value} (h : CellsAt w b N f) (e : ∀ o, o < N → f o = g o) : CellsAt w b N g := ⟨h.pos, fun o ho => (h.cell o ho).trans (by rw [e o ho]), h.free⟩
theorem CellsAt.new (w : World) (c : Array Value) (T : TypeId) (N : Nat) (f : Nat → Value) (pos : 0 < N) (hf : ∀ o, o < N → c[o]? = some (f o)) : CellsAt (w.alloc (.cells c T)) w.heap.size N f :=
  ⟨pos, fun o ho => by rw [World.cell?_alloc_new]; exact hf o ho, fun o => World.frozen?_alloc_new _ _ _ _⟩

theorem only_drewN {a w : World} {row : Option Nat} (h : a.grownBy w row) (n : Nat) : a.grownBy (w.drewN n) row := ⟨h.os, h.tape, h.output, h.size, h.block⟩
theorem only_drew {a w : World} {row : Option Nat} (h : a.grownBy w row) : a.grownBy w.drew row := ⟨h.os, h.tape, h.output, h.size, h.block⟩
theorem only_alloc {a w : World} {row : Option Nat} (h : a.grownBy w row) (o : Obj) : a.grownBy (w.alloc o) row :=
  ⟨h.os, h.tape, h.output, Nat.le_trans h.size (by simp), fun i hi hne => (Below.heap_alloc w o i (Nat.lt_of_lt_of_le hi h.size)).trans (h.block i hi hne)⟩
theorem only_setCell {a w : World} {row : Option Nat} (h : a.grownBy w row) {p : Addr} (hp : some p.block = row ∨ a.heap.size ≤ p.block) (u : Value) : a.grownBy (w.setCell p u) row :=
  ⟨h.os, h.tape, h.output, by simpa [World.setCell] using h.size, fun i hi hne => (Below.heap_setCell w p u i (by
    rintro rfl
    rcases hp with hp | hp
    · exact hne hp
    · omega)).trans (h.block i hi hne)⟩
theorem only_mono {a w : World} {row : Option Nat} (h : a.grownBy w none) : a.grownBy w row := ⟨h.os, h.tape, h.output, h.size, fun i hi _ => h.block i hi (by simp)⟩
theorem only_trans {a b c : World} {row : Option Nat} (h : a.grownBy b row) (k : b.grownBy c row) : a.grownBy c row :=
  ⟨k.os.trans h.os, k.tape.trans h.tape, k.output.trans h.output, Nat.le_trans h.size k.size, fun i hi hne => (k.block i (Nat.lt_of_lt_of_le hi h.size) hne).trans (h.block i hi hne)⟩
/-- Only block g, which lies at B or above, has turned. -/
theorem below_only {B : Nat} {a w w' : World} (h : Below B a w) {g : Nat} (k : w.grownBy w' (some g)) (hB : B ≤ w.heap.size) (hg : B ≤ g) : Below B a w' :=
  h.grown k hB (fun k e => by injection e with e; omega)
theorem below_none {B : Nat} {a w w' : World} (h : Below B a w) (k : w.grownBy w' none) (hB : B ≤ w.heap.size) : Below B a w' :=
  h.grown k hB (fun k e => by cases e)
theorem below_drewN {B : Nat} {a w : World} (h : Below B a w) (n : Nat) : Below B a (w.drewN n) := ⟨h.os, h.tape, h.output, h.size, h.block⟩
theorem size_drewN (w : World) (n : Nat) : (w.drewN n).heap.size = w.heap.size := rfl
theorem size_setCell (w : World) (a : Addr) (v : Value) : (w.setCell a v).heap.size = w.heap.size := by simp [World.setCell]
theorem grown_cell {w w1 : World} {row : Option Nat} (hg : w.grownBy w1 row) (p : Addr) (hlt : p.block < w.heap.size) (hne : some p.block ≠ row) : w1.cell? p = w.cell? p := World.cell?_of_block (w := w) (hg.block _ hlt hne)
theorem grown_frozen {w w1 : World} {row : Option Nat} (hg : w.grownBy w1 row) (p : Addr) (hlt : p.block < w.heap.size) (hne : some p.block ≠ row) : w1.frozen? p = w.frozen? p := World.frozen?_of_block (w := w) (hg.block _ hlt hne)
theorem only_past {w w1 : World} {o : Obj} {row : Option Nat} (h : (w.alloc o).grownBy w1 row) : w.grownBy w1 row := only_trans (only_alloc (World.grownBy.refl _ _) _) h
/-- A box of five cells, made ahead of a call that leaves it alone. -/
theorem box5 {w w1 : World} {c0 c1 c2 c3 c4 : Value} {T : TypeId} {row : Option Nat} (hg : (w.alloc (.cells #[c0, c1, c2, c3, c4] T)).grownBy w1 row) (hr : some w.heap.size ≠ row) :
    w1.cell? ⟨w.heap.size, 0, none⟩ = some c0 ∧ w1.cell? ⟨w.heap.size, 1, none⟩ = some c1 ∧ w1.cell? ⟨w.heap.size, 2, none⟩ = some c2 ∧ w1.cell? ⟨w.heap.size, 3, none⟩ = some c3 ∧ w1.cell? ⟨w.heap.size, 4, none⟩ = some c4 ∧
      (∀ o, w1.frozen? ⟨w.heap.size, o, none⟩ = false) ∧ w.heap.size < w1.heap.size := by
  have hs := hg.size
  rw [World.size_alloc] at hs
  refine ⟨?_, ?_, ?_, ?_, ?_, fun o => ?_, by omega⟩
  · rw [grown_cell hg _ (by simp) hr, World.cell?_alloc_new]; rfl
  · rw [grown_cell hg _ (by simp) hr, World.cell?_alloc_new]; rfl
  · rw [grown_cell hg _ (by simp) hr, World.cell?_alloc_new]; rfl
  · rw [grown_cell hg _ (by simp) hr, World.cell?_alloc_new]; rfl
  · rw [grown_cell hg _ (by simp) hr, World.cell?_alloc_new]; rfl
  · rw [grown_frozen hg _ (by simp) hr, World.frozen?_alloc_new]
end Go.Proofs.Ytkjgklpdoomjcaa

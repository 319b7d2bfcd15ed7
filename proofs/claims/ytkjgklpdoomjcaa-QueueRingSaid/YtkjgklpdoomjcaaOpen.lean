/- Arguments that are slices, opened: what each cell of an element holds. No program. -/
import Derived.ProofKit
import Derived.Deep.Slices
import Derived.Deep.Fields
import Derived.Below
namespace Go.Proofs.Ytkjgklpdoomjcaa
open Go.RowKit Go.ChangeShapes Go.WideShapes Go.Deep

def IntRow (k : IntKind) (w : World) (a : Option Addr) (len : Nat) (z : Nat → Int) : Prop :=
  ∀ i, i < len → ∃ b off, a = some ⟨b, off, none⟩ ∧ b < w.heap.size ∧ w.cell? ⟨b, off + i, none⟩ = some (.int k (z i)) ∧ (Lit.int k (z i)).wf = true


section
variable {H : Type} {enc : TypeId × Value → H} {P : Program} {w : World} {base : Nat} {spare : Nat → Bool} {held : Bool}
theorem open_introw {t e : TypeId} {k : IntKind} {a : Option Addr} {len cap : Nat} {d : DataW H} {p : List MemPlace} (ht : P.underlying t = some (.slice e)) (he : P.underlying e = some (.int k)) (hC : P.cellsOf e = 1)
    (h : DataW.Trod enc P w base spare held t (.slice a len cap) d p) : ∃ z, len ≤ 9223372036854775807 ∧ IntRow k w a len z := by
  obtain ⟨fuel, hf⟩ := h
  rcases open_ints ht he hC hf with ⟨hcs, _⟩ | ⟨x, l, c, zs, hcs, _, hl, hm, hz, _, hcell, hwz⟩
  · simp [Value.cells] at hcs
    obtain ⟨rfl, rfl, rfl⟩ := hcs
    exact ⟨fun _ => 0, by omega, fun i hi => by omega⟩
  · simp [Value.cells] at hcs
    obtain ⟨rfl, rfl, rfl⟩ := hcs
    unfold maxLen at hm
    refine ⟨fun i => zs.getD i 0, by omega, fun i hi => ?_⟩
    obtain ⟨b, off, spot⟩ := x
    have hz' : len ≤ zs.length := by rw [hz]; split <;> omega
    have hc0 := hcell 0 (by omega)
    have hspot : spot = none := by simpa [Addr.add] using World.cell?_spot hc0
    subst hspot
    have hc := hcell i (by omega)
    have ea : (⟨b, off, none⟩ : Addr).add i = ⟨b, off + i, none⟩ := by
      unfold Addr.add
      split
      · subst i; rfl
      · rfl
    rw [ea] at hc
    refine ⟨b, off, rfl, World.block_lt_of_cell? w _ hc, hc, hwz _ ?_⟩
    have hi' : i < zs.length := by omega
    simp [List.getD, List.getElem?_eq_getElem hi']
end
end Go.Proofs.Ytkjgklpdoomjcaa

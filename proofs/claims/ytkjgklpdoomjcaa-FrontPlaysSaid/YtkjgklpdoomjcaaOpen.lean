/- Arguments that are slices, opened: what each cell of an element holds. No program. -/
import Derived.ProofKit
import Derived.Deep.Slices
import Derived.Deep.Fields
import Derived.Below
namespace Go.Proofs.Ytkjgklpdoomjcaa
open Go.RowKit Go.ChangeShapes Go.WideShapes Go.Deep

def IntRow (k : IntKind) (w : World) (a : Option Addr) (len : Nat) (z : Nat → Int) : Prop :=
  ∀ i, i < len → ∃ b off, a = some ⟨b, off, none⟩ ∧ b < w.heap.size ∧ w.cell? ⟨b, off + i, none⟩ = some (.int k (z i)) ∧ (Lit.int k (z i)).wf = true


section
variable {H : Type} {enc : TypeId × Value → H} {P : Program} {w : World} {base : Nat} {spare : Nat → Bool} {held : Bool}
theorem open_introw {t e : TypeId} {k : IntKind} {a : Option Addr} {len cap : Nat} {d : DataW H} {p : List MemPlace} (ht : P.underlying t = some (.slice e)) (he : P.underlying e = some (.int k)) (hC : P.cellsOf e = 1)
    (h : DataW.Trod enc P w base spare held t (.slice a len cap) d p) : ∃ z, len ≤ 9223372036854775807 ∧ IntRow k w a len z := by
  obtain ⟨fuel, hf⟩ := h
  rcases open_ints ht he hC hf with ⟨hcs, _⟩ | ⟨x, l, c, zs, hcs, _, hl, hm, hz, _, hcell, hwz⟩
  · simp [Value.cells] at hcs
    obtain ⟨rfl, rfl, rfl⟩ := hcs
    exact ⟨fun _ => 0, by omega, fun i hi => by omega⟩
  · simp [Value.cells] at hcs
    obtain ⟨rfl, rfl, rfl⟩ := hcs
    unfold maxLen at hm
    refine ⟨fun i => zs.getD i 0, by omega, fun i hi => ?_⟩
    obtain ⟨b, off, spot⟩ := x
    have hz' : len ≤ zs.length := by rw [hz]; split <;> omega
    have hc0 := hcell 0 (by omega)
    have hspot : spot = none := by simpa [Addr.add] using World.cell?_spot hc0
    subst hspot
    have hc := hcell i (by omega)
    have ea : (⟨b, off, none⟩ : Addr).add i = ⟨b, off + i, none⟩ := by
      unfold Addr.add
      split
      · subst i; rfl
      · rfl
    rw [ea] at hc
    refine ⟨b, off, rfl, World.block_lt_of_cell? w _ hc, hc, hwz _ ?_⟩
    have hi' : i < zs.length := by omega
    simp [List.getD, List.getElem?_eq_getElem hi']

/-- An address in a row: spot none. -/
theorem add_none (b off k : Nat) : (⟨b, off, none⟩ : Addr).add k = ⟨b, off + k, none⟩ := by
  unfold Addr.add
  split
  · subst k; rfl
  · rfl

/-- A slice of elements of C cells each: element i's cells, and how they read. -/
theorem open_structs {t e : TypeId} {C : Nat} {a : Option Addr} {len cap : Nat} {d : DataW H} {p : List MemPlace} (ht : P.underlying t = some (.slice e)) (hC : P.cellsOf e = C) (hp : 0 < C)
    (h : DataW.Trod enc P w base spare held t (.slice a len cap) d p) :
    len ≤ 9223372036854775807 ∧ ∀ i, i < len → ∃ b off cs n y, a = some ⟨b, off, none⟩ ∧ b < w.heap.size ∧ cs.length = C ∧ (∀ j, j < C → w.cell? ⟨b, off + i * C + j, none⟩ = cs[j]?) ∧ DataW.trod enc P w base spare held n e cs = some y := by
  obtain ⟨fuel, hf⟩ := h
  rcases open_slice ht hf with ⟨hcs, _⟩ | ⟨x, l, c, m, n, D, Pl, hcs, hb, hl, hm, hmm, hx, hi⟩
  · simp [Value.cells] at hcs
    obtain ⟨rfl, rfl, rfl⟩ := hcs
    exact ⟨by omega, fun i hi => by omega⟩
  · simp [Value.cells] at hcs
    obtain ⟨rfl, rfl, rfl⟩ := hcs
    unfold maxLen at hm
    refine ⟨by omega, fun i hil => ?_⟩
    have hlm : len ≤ m := by rw [hmm]; split <;> omega
    obtain ⟨b, off, spot⟩ := x
    have hspot : spot = none := by
      obtain ⟨cs0, hc0, _⟩ := hi 0 (by omega)
      obtain ⟨_, hlen, hcell⟩ := World.cells?_some hc0
      have h0 := hcell 0 (by omega)
      rw [Nat.zero_mul] at h0
      have hv : ∃ v, w.cell? ((⟨b, off, spot⟩ : Addr).add 0 |>.add 0) = some v := ⟨_, h0.trans (List.getElem?_eq_getElem (by omega))⟩
      obtain ⟨v, hv⟩ := hv
      simpa [Addr.add] using World.cell?_spot hv
    subst hspot
    obtain ⟨cs, hc, hr⟩ := hi i (by omega)
    obtain ⟨_, hlen, hcell⟩ := World.cells?_some hc
    rw [hC] at hlen hcell
    have hc' : ∀ j, j < C → w.cell? ⟨b, off + i * C + j, none⟩ = cs[j]? := fun j hj => by
      have := hcell j hj
      rwa [add_none, add_none] at this
    have h0 := hc' 0 hp
    rw [List.getElem?_eq_getElem (by omega)] at h0
    exact ⟨b, off, cs, n, _, rfl, World.block_lt_of_cell? w _ h0, hlen, hc', hr⟩

theorem field_at {t : TypeId} {fs : Array Field} {fuel : Nat} {cs : List Value} {x : DataW H × List MemPlace} (ht : P.underlying t = some (.struct fs)) (h : DataW.trod enc P w base spare held fuel t cs = some x) (i : Nat) (f : Field) (hf : fs[i]? = some f) :
    ∃ n y, DataW.trod enc P w base spare held n f.type ((cs.drop f.offset).take (P.cellsOf f.type)) = some y := by
  obtain ⟨xs, n, _, _, _, hlen, hg⟩ := DataW.trod_struct ht h
  have hi : i < fs.size := (Array.getElem?_eq_some_iff.1 hf).1
  exact ⟨n, xs[i]'(by omega), (hg i f hf).trans (List.getElem?_eq_getElem (by omega))⟩

theorem take_one {cs : List Value} {o : Nat} {v : Value} (h : (cs.drop o).take 1 = [v]) : cs[o]? = some v := by
  have h1 : ((cs.drop o).take 1)[0]? = some v := by rw [h]; rfl
  rw [List.getElem?_take_of_lt (by omega), List.getElem?_drop] at h1
  simpa using h1

theorem int_at {t : TypeId} {fs : Array Field} {fuel : Nat} {cs : List Value} {x : DataW H × List MemPlace} (ht : P.underlying t = some (.struct fs)) (h : DataW.trod enc P w base spare held fuel t cs = some x)
    (i T o : Nat) {k : IntKind} (hf : (fs[i]?).map (fun f => (f.type, f.offset)) = some (T, o)) (hT : P.underlying T = some (.int k)) (hC : P.cellsOf T = 1) : ∃ z, cs[o]? = some (.int k z) ∧ (Lit.int k z).wf = true := by
  obtain ⟨f, hf1, hf2⟩ := Option.map_eq_some_iff.1 hf
  simp only [Prod.mk.injEq] at hf2
  obtain ⟨rfl, rfl⟩ := hf2
  obtain ⟨n, y, hr⟩ := field_at ht h i f hf1
  rw [hC] at hr
  obtain ⟨z, e, _, wz⟩ := DataW.trod_int hT hr
  exact ⟨z, take_one e, wz⟩
theorem bool_at {t : TypeId} {fs : Array Field} {fuel : Nat} {cs : List Value} {x : DataW H × List MemPlace} (ht : P.underlying t = some (.struct fs)) (h : DataW.trod enc P w base spare held fuel t cs = some x)
    (i T o : Nat) (hf : (fs[i]?).map (fun f => (f.type, f.offset)) = some (T, o)) (hT : P.underlying T = some .bool) (hC : P.cellsOf T = 1) : ∃ z, cs[o]? = some (.bool z) := by
  obtain ⟨f, hf1, hf2⟩ := Option.map_eq_some_iff.1 hf
  simp only [Prod.mk.injEq] at hf2
  obtain ⟨rfl, rfl⟩ := hf2
  obtain ⟨n, y, hr⟩ := field_at ht h i f hf1
  rw [hC] at hr
  obtain ⟨z, e, _⟩ := DataW.trod_bool hT hr
  exact ⟨z, take_one e⟩
theorem part_at {t : TypeId} {fs : Array Field} {fuel : Nat} {cs : List Value} {x : DataW H × List MemPlace} (ht : P.underlying t = some (.struct fs)) (h : DataW.trod enc P w base spare held fuel t cs = some x)
    (i T o C : Nat) (hf : (fs[i]?).map (fun f => (f.type, f.offset)) = some (T, o)) (hC : P.cellsOf T = C) : ∃ n y, DataW.trod enc P w base spare held n T ((cs.drop o).take C) = some y := by
  obtain ⟨f, hf1, hf2⟩ := Option.map_eq_some_iff.1 hf
  simp only [Prod.mk.injEq] at hf2
  obtain ⟨rfl, rfl⟩ := hf2
  rw [← hC]
  exact field_at ht h i f hf1
end
end Go.Proofs.Ytkjgklpdoomjcaa

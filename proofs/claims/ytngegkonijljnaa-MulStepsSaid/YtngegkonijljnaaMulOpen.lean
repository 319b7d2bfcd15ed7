/- The unit's scripts that come in as arguments, opened to their cells. -/
import Derived.Test.YtngegkonijljnaaOpen
import Derived.Test.YtngegkonijljnaaMulU
namespace Go.Proofs.Ytngegkonijljnaa
open Go.RowKit Go.ChangeShapes Go.WideShapes Go.Deep
structure M where
  kind : Int
  f : Int
  word : Bool
  x : BitVec 64
  y : BitVec 64
def M.l (m : M) : List Value := [.int .i64 m.kind, .int .i64 m.f, .bool m.word, .int .u64 m.x.toNat, .int .u64 m.y.toNat]
section
variable {H : Type} {enc : TypeId × Value → H} {w : World} {base : Nat} {spare : Nat → Bool} {held : Bool}
theorem op_cells {fuel : Nat} {cs : List Value} {x : DataW H × List MemPlace} (h : DataW.trod enc Try.prog w base spare held fuel 34 cs = some x) : ∃ o : M, True ∧ cs = o.l := by
  have hl : cs.length = 5 := by obtain ⟨_, _, _, _, hl, _⟩ := DataW.trod_struct Try.underlying34 h; exact hl.trans (by kernel_rfl)
  obtain ⟨z0, e0, w0⟩ := int_at Try.underlying34 h 0 3 0 rfl Try.underlying3 (by kernel_rfl)
  obtain ⟨z1, e1, w1⟩ := int_at Try.underlying34 h 1 3 1 rfl Try.underlying3 (by kernel_rfl)
  obtain ⟨z2, e2⟩ := bool_at Try.underlying34 h 2 4 2 rfl Try.underlying4 (by kernel_rfl)
  obtain ⟨z3, e3, w3⟩ := int_at Try.underlying34 h 3 22 3 rfl Try.underlying22 (by kernel_rfl)
  obtain ⟨z4, e4, w4⟩ := int_at Try.underlying34 h 4 22 4 rfl Try.underlying22 (by kernel_rfl)
  obtain ⟨x, rfl⟩ := of_u64 w3
  obtain ⟨y, rfl⟩ := of_u64 w4
  match cs, hl with
  | [a0, a1, a2, a3, a4], _ =>
    simp at e0 e1 e2 e3 e4
    subst e0 e1 e2 e3 e4
    exact ⟨⟨z0, z1, z2, x, y⟩, trivial, rfl⟩
/-- A slice of structs: each element's cells. -/
def RowOf {α : Type} (w : World) (a : Option Addr) (len C : Nat) (l : α → List Value) (wf : α → Prop) : Prop :=
  ∀ i, i < len → ∃ (b off : Nat) (x : α), a = some ⟨b, off, none⟩ ∧ b < w.heap.size ∧ wf x ∧ ∀ j, j < C → w.cell? ⟨b, off + i * C + j, none⟩ = (l x)[j]?

theorem open_row {α : Type} {t e C : Nat} {a : Option Addr} {len cap : Nat} {d : DataW H} {p : List MemPlace} {l : α → List Value} {wf : α → Prop} (ht : Try.prog.underlying t = some (.slice e)) (hC : Try.prog.cellsOf e = C) (hp : 0 < C)
    (hx : ∀ (n : Nat) (cs : List Value) (x : DataW H × List MemPlace), DataW.trod enc Try.prog w base spare held n e cs = some x → ∃ o : α, wf o ∧ cs = l o)
    (h : DataW.Trod enc Try.prog w base spare held t (.slice a len cap) d p) : len ≤ 9223372036854775807 ∧ RowOf w a len C l wf := by
  obtain ⟨hl, hr⟩ := open_structs ht hC hp h
  refine ⟨hl, fun i hi => ?_⟩
  obtain ⟨b, off, cs, n, y, ha, hb, _, hc, ht⟩ := hr i hi
  obtain ⟨o, ho, rfl⟩ := hx _ _ _ ht
  exact ⟨b, off, o, ha, hb, ho, hc⟩
theorem open_script {a : Option Addr} {len cap : Nat} {d : DataW H} {p : List MemPlace} (h : DataW.Trod enc Try.prog w base spare held 30 (.slice a len cap) d p) : len ≤ 9223372036854775807 ∧ RowOf w a len 5 M.l (fun _ => True) :=
  open_row Try.underlying30 (by kernel_rfl) (by omega) (fun _ _ _ h => op_cells h) h
end
end Go.Proofs.Ytngegkonijljnaa

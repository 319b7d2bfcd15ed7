/- An instruction that comes in as an argument, opened to its cells. -/
import Derived.Test.YtnncifcfgjphlaaTarget
import Derived.Test.YtnncifcfgjphlaaOpen
import Derived.ProofKit
import Derived.Deep.Slices
import Derived.Deep.Fields
namespace Go.Proofs.Ytnncifcfgjphlaa
open Go.RowKit Go.ChangeShapes Go.WideShapes Go.Deep
section
variable {H : Type} {enc : TypeId × Value → H} {w : World} {base : Nat} {spare : Nat → Bool} {held : Bool}
theorem inst_cells {fuel : Nat} {cs : List Value} {x : DataW H × List MemPlace} (h : DataW.trod enc Try.prog w base spare held fuel 34 cs = some x) :
    ∃ i : I, cs = [.int .i64 i.op, .int .i64 i.fn, .int .i64 i.rd, .int .i64 i.rs1, .int .i64 i.rs2, .int .u64 i.imm.toNat, .int .i64 i.size, .bool i.signed, .bool i.word, .bool i.useImm, .int .i64 i.csr] := by
  have hl : cs.length = 11 := by obtain ⟨_, _, _, _, hl, _⟩ := DataW.trod_struct Try.underlying34 h; exact hl.trans (by kernel_rfl)
  obtain ⟨z0, e0, w0⟩ := int_at Try.underlying34 h 0 3 0 rfl Try.underlying3 (by kernel_rfl)
  obtain ⟨z1, e1, w1⟩ := int_at Try.underlying34 h 1 3 1 rfl Try.underlying3 (by kernel_rfl)
  obtain ⟨z2, e2, w2⟩ := int_at Try.underlying34 h 2 3 2 rfl Try.underlying3 (by kernel_rfl)
  obtain ⟨z3, e3, w3⟩ := int_at Try.underlying34 h 3 3 3 rfl Try.underlying3 (by kernel_rfl)
  obtain ⟨z4, e4, w4⟩ := int_at Try.underlying34 h 4 3 4 rfl Try.underlying3 (by kernel_rfl)
  obtain ⟨z5, e5, w5⟩ := int_at Try.underlying34 h 5 22 5 rfl Try.underlying22 (by kernel_rfl)
  obtain ⟨z6, e6, w6⟩ := int_at Try.underlying34 h 6 3 6 rfl Try.underlying3 (by kernel_rfl)
  obtain ⟨z7, e7⟩ := bool_at Try.underlying34 h 7 4 7 rfl Try.underlying4 (by kernel_rfl)
  obtain ⟨z8, e8⟩ := bool_at Try.underlying34 h 8 4 8 rfl Try.underlying4 (by kernel_rfl)
  obtain ⟨z9, e9⟩ := bool_at Try.underlying34 h 9 4 9 rfl Try.underlying4 (by kernel_rfl)
  obtain ⟨z10, e10, w10⟩ := int_at Try.underlying34 h 10 3 10 rfl Try.underlying3 (by kernel_rfl)
  obtain ⟨m, rfl⟩ := of_u64 w5
  match cs, hl with
  | [a0, a1, a2, a3, a4, a5, a6, a7, a8, a9, a10], _ =>
    simp at e0 e1 e2 e3 e4 e5 e6 e7 e8 e9 e10
    subst e0 e1 e2 e3 e4 e5 e6 e7 e8 e9 e10
    exact ⟨⟨z0, z1, z2, z3, z4, m, z6, z7, z8, z9, z10⟩, rfl⟩
set_option maxRecDepth 100000 in
theorem open_inst {r : Reach} {b0 : Nat} {v : Value} {d : DataW H} {p : List MemPlace} (hv : Value.okWide Try.prog w r b0 34 v) (h : DataW.Trod enc Try.prog w base spare held 34 v d p) :
    ∃ i : I, v = .agg #[.int .i64 i.op, .int .i64 i.fn, .int .i64 i.rd, .int .i64 i.rs1, .int .i64 i.rs2, .int .u64 i.imm.toNat, .int .i64 i.size, .bool i.signed, .bool i.word, .bool i.useImm, .int .i64 i.csr] ∧ True := by
  obtain ⟨cs, rfl, _⟩ := okWide_struct Try.underlying34 hv
  obtain ⟨fuel, hf⟩ := h
  obtain ⟨s, he⟩ := inst_cells hf
  simp only [Value.cells] at he
  obtain ⟨l⟩ := cs
  dsimp only at he
  subst he
  exact ⟨s, rfl, trivial⟩
end
end Go.Proofs.Ytnncifcfgjphlaa

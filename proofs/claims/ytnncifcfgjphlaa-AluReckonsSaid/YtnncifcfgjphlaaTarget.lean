/- CONTRACTS OF Target AND ITS TWIN. -/
import Derived.Test.YtnncifcfgjphlaaAluB
namespace Go.Proofs.Ytnncifcfgjphlaa
open Go.RowKit
set_option linter.unusedVariables false
set_option maxHeartbeats 1600000
structure I where
  op : Int
  fn : Int
  rd : Int
  rs1 : Int
  rs2 : Int
  imm : BitVec 64
  size : Int
  signed : Bool
  word : Bool
  useImm : Bool
  csr : Int
abbrev I.val (i : I) : Value := .agg #[.int .i64 i.op, .int .i64 i.fn, .int .i64 i.rd, .int .i64 i.rs1, .int .i64 i.rs2, .int .u64 i.imm.toNat, .int .i64 i.size, .bool i.signed, .bool i.word, .bool i.useImm, .int .i64 i.csr]
def TG (n : Nat) (i : I) (pc a r : BitVec 64) : Prop := ∀ w : World, Calls Try.prog n #[i.val, .int .u64 pc.toNat, .int .u64 a.toNat] w fun e w' => e = .returned (.int .u64 r.toNat) ∧ Below w.heap.size w w'
theorem below_alloc (w : World) (o : Obj) : Below w.heap.size w (w.alloc o) := ⟨rfl, rfl, rfl, by simp, fun i hi => Below.heap_alloc w o i hi⟩
theorem andnot64 (x y : BitVec 64) : bits .andNot .u64 (x.toNat : Int) (y.toNat : Int) = ((x &&& ~~~y).toNat : Int) := by
  show IntKind.u64.wrap ((BitVec.ofInt 64 (x.toNat : Int) &&& ~~~(BitVec.ofInt 64 (y.toNat : Int))).toNat : Int) = _
  rw [ofNat_toNat64, ofNat_toNat64, u64_toNat, BitVec.ofNat_toNat, BitVec.setWidth_eq]

set_option maxRecDepth 100000 in
theorem t16_3 (i : I) (pc a : BitVec 64) (h : i.op = 3) : TG 16 i pc a (pc + i.imm) := by
  intro w
  have e1 := add64 pc i.imm
  generalize pc + i.imm = r at *
  obtain ⟨op, fn, rd, rs1, rs2, imm, size, signed, word, useImm, csr⟩ := i
  simp only [I.val] at h e1 ⊢
  subst h
  go_enter Try.func16, Try.ntmps16
  go_wp2
  go_ret
  exact ⟨rfl, below_alloc _ _⟩

set_option maxRecDepth 100000 in
theorem t16_5 (i : I) (pc a : BitVec 64) (h : i.op = 5) : TG 16 i pc a (pc + i.imm) := by
  intro w
  have e1 := add64 pc i.imm
  generalize pc + i.imm = r at *
  obtain ⟨op, fn, rd, rs1, rs2, imm, size, signed, word, useImm, csr⟩ := i
  simp only [I.val] at h e1 ⊢
  subst h
  go_enter Try.func16, Try.ntmps16
  go_wp2
  go_ret
  exact ⟨rfl, below_alloc _ _⟩

set_option maxRecDepth 100000 in
theorem t16_4 (i : I) (pc a : BitVec 64) (h : i.op = 4) : TG 16 i pc a ((a + i.imm) &&& ~~~1#64) := by
  intro w
  have e1 := add64 a i.imm
  have e2 := andnot64 (a + i.imm) 1#64
  rw [show (((1#64).toNat : Nat) : Int) = 1 from by decide] at e2
  generalize (a + i.imm) &&& ~~~1#64 = r at *
  generalize a + i.imm = s at *
  obtain ⟨op, fn, rd, rs1, rs2, imm, size, signed, word, useImm, csr⟩ := i
  simp only [I.val] at h e1 ⊢
  subst h
  go_enter Try.func16, Try.ntmps16
  go_wp2
  go_ret
  exact ⟨rfl, below_alloc _ _⟩

set_option maxRecDepth 100000 in
theorem t16_o (i : I) (pc a : BitVec 64) (h3 : i.op ≠ 3) (h5 : i.op ≠ 5) (h4 : i.op ≠ 4) : TG 16 i pc a (pc + 4#64) := by
  intro w
  have e1 := add64 pc 4#64
  rw [show (((4#64).toNat : Nat) : Int) = 4 from by decide] at e1
  generalize pc + 4#64 = r at *
  obtain ⟨op, fn, rd, rs1, rs2, imm, size, signed, word, useImm, csr⟩ := i
  simp only [I.val] at h3 h5 h4 e1 ⊢
  skip
  go_enter Try.func16, Try.ntmps16
  go_wp2
  go_ret
  exact ⟨rfl, below_alloc _ _⟩

set_option maxRecDepth 100000 in
theorem t17_3 (i : I) (pc a : BitVec 64) (h : i.op = 3) : TG 17 i pc a (pc + i.imm) := by
  intro w
  have e1 := add64 pc i.imm
  generalize pc + i.imm = r at *
  obtain ⟨op, fn, rd, rs1, rs2, imm, size, signed, word, useImm, csr⟩ := i
  simp only [I.val] at h e1 ⊢
  subst h
  go_enter Try.func17, Try.ntmps17
  go_wp2
  go_ret
  exact ⟨rfl, below_alloc _ _⟩

set_option maxRecDepth 100000 in
theorem t17_5 (i : I) (pc a : BitVec 64) (h : i.op = 5) : TG 17 i pc a (pc + i.imm) := by
  intro w
  have e1 := add64 pc i.imm
  generalize pc + i.imm = r at *
  obtain ⟨op, fn, rd, rs1, rs2, imm, size, signed, word, useImm, csr⟩ := i
  simp only [I.val] at h e1 ⊢
  subst h
  go_enter Try.func17, Try.ntmps17
  go_wp2
  go_ret
  exact ⟨rfl, below_alloc _ _⟩

set_option maxRecDepth 100000 in
theorem t17_4 (i : I) (pc a : BitVec 64) (h : i.op = 4) : TG 17 i pc a ((a + i.imm) &&& ~~~1#64) := by
  intro w
  have e1 := add64 a i.imm
  have e2 := andnot64 (a + i.imm) 1#64
  rw [show (((1#64).toNat : Nat) : Int) = 1 from by decide] at e2
  generalize (a + i.imm) &&& ~~~1#64 = r at *
  generalize a + i.imm = s at *
  obtain ⟨op, fn, rd, rs1, rs2, imm, size, signed, word, useImm, csr⟩ := i
  simp only [I.val] at h e1 ⊢
  subst h
  go_enter Try.func17, Try.ntmps17
  go_wp2
  go_ret
  exact ⟨rfl, below_alloc _ _⟩

set_option maxRecDepth 100000 in
theorem t17_o (i : I) (pc a : BitVec 64) (h3 : i.op ≠ 3) (h5 : i.op ≠ 5) (h4 : i.op ≠ 4) : TG 17 i pc a (pc + 4#64) := by
  intro w
  have e1 := add64 pc 4#64
  rw [show (((4#64).toNat : Nat) : Int) = 4 from by decide] at e1
  generalize pc + 4#64 = r at *
  obtain ⟨op, fn, rd, rs1, rs2, imm, size, signed, word, useImm, csr⟩ := i
  simp only [I.val] at h3 h5 h4 e1 ⊢
  skip
  go_enter Try.func17, Try.ntmps17
  go_wp2
  go_ret
  exact ⟨rfl, below_alloc _ _⟩

end Go.Proofs.Ytnncifcfgjphlaa

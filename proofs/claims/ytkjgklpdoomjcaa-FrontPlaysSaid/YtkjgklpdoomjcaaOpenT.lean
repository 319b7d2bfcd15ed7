/- The structs that come in as arguments (slots, jumps, the scripts' calls), opened to their cells. -/
import Derived.Test.YtkjgklpdoomjcaaOpen
import Derived.Test.YtkjgklpdoomjcaaQueue
namespace Go.Proofs.Ytkjgklpdoomjcaa
open Go.RowKit Go.ChangeShapes Go.WideShapes Go.Deep

/-- A jump: api.Jump. -/
structure J where
  pc : Int
  call : Bool
  ret : Bool
  cond : Bool
  taken : Bool
  target : Int

def S.wf (s : S) : Prop := (Lit.int .u64 s.pc).wf = true ∧ (Lit.int .u32 s.bits).wf = true ∧ (Lit.int .i64 s.fault).wf = true ∧ (Lit.int .u64 s.next).wf = true ∧ (Lit.int .i64 s.epoch).wf = true
def J.wf (j : J) : Prop := (Lit.int .u64 j.pc).wf = true ∧ (Lit.int .u64 j.target).wf = true
def S.l (s : S) : List Value := [.int .u64 s.pc, .int .u32 s.bits, .int .i64 s.fault, .int .u64 s.next, .int .i64 s.epoch]
def J.l (j : J) : List Value := [.int .u64 j.pc, .bool j.call, .bool j.ret, .bool j.cond, .bool j.taken, .int .u64 j.target]

section
variable {H : Type} {enc : TypeId × Value → H} {w : World} {base : Nat} {spare : Nat → Bool} {held : Bool}
theorem slot_cells {fuel : Nat} {cs : List Value} {x : DataW H × List MemPlace} (h : DataW.trod enc Try.prog w base spare held fuel 34 cs = some x) : ∃ s : S, s.wf ∧ cs = s.l := by
  have hl : cs.length = 5 := by obtain ⟨_, _, _, _, hl, _⟩ := DataW.trod_struct Try.underlying34 h; exact hl.trans (by kernel_rfl)
  obtain ⟨z0, e0, w0⟩ := int_at Try.underlying34 h 0 29 0 rfl Try.underlying29 (by kernel_rfl)
  obtain ⟨z1, e1, w1⟩ := int_at Try.underlying34 h 1 32 1 rfl Try.underlying32 (by kernel_rfl)
  obtain ⟨z2, e2, w2⟩ := int_at Try.underlying34 h 2 3 2 rfl Try.underlying3 (by kernel_rfl)
  obtain ⟨z3, e3, w3⟩ := int_at Try.underlying34 h 3 29 3 rfl Try.underlying29 (by kernel_rfl)
  obtain ⟨z4, e4, w4⟩ := int_at Try.underlying34 h 4 3 4 rfl Try.underlying3 (by kernel_rfl)
  match cs, hl with
  | [a0, a1, a2, a3, a4], _ =>
    simp at e0 e1 e2 e3 e4
    subst e0 e1 e2 e3 e4
    exact ⟨⟨z0, z1, z2, z3, z4⟩, ⟨w0, w1, w2, w3, w4⟩, rfl⟩
theorem jump_cells {fuel : Nat} {cs : List Value} {x : DataW H × List MemPlace} (h : DataW.trod enc Try.prog w base spare held fuel 44 cs = some x) : ∃ j : J, j.wf ∧ cs = j.l := by
  have hl : cs.length = 6 := by obtain ⟨_, _, _, _, hl, _⟩ := DataW.trod_struct Try.underlying44 h; exact hl.trans (by kernel_rfl)
  obtain ⟨z0, e0, w0⟩ := int_at Try.underlying44 h 0 29 0 rfl Try.underlying29 (by kernel_rfl)
  obtain ⟨z1, e1⟩ := bool_at Try.underlying44 h 1 4 1 rfl Try.underlying4 (by kernel_rfl)
  obtain ⟨z2, e2⟩ := bool_at Try.underlying44 h 2 4 2 rfl Try.underlying4 (by kernel_rfl)
  obtain ⟨z3, e3⟩ := bool_at Try.underlying44 h 3 4 3 rfl Try.underlying4 (by kernel_rfl)
  obtain ⟨z4, e4⟩ := bool_at Try.underlying44 h 4 4 4 rfl Try.underlying4 (by kernel_rfl)
  obtain ⟨z5, e5, w5⟩ := int_at Try.underlying44 h 5 29 5 rfl Try.underlying29 (by kernel_rfl)
  match cs, hl with
  | [a0, a1, a2, a3, a4, a5], _ =>
    simp at e0 e1 e2 e3 e4 e5
    subst e0 e1 e2 e3 e4 e5
    exact ⟨⟨z0, z1, z2, z3, z4, z5⟩, ⟨w0, w5⟩, rfl⟩

set_option maxRecDepth 100000 in
/-- A slot, a jump by value. -/
theorem open_slot {r : Reach} {b0 : Nat} {v : Value} {d : DataW H} {p : List MemPlace} (hv : Value.okWide Try.prog w r b0 34 v) (h : DataW.Trod enc Try.prog w base spare held 34 v d p) :
    ∃ s : S, v = .agg #[.int .u64 s.pc, .int .u32 s.bits, .int .i64 s.fault, .int .u64 s.next, .int .i64 s.epoch] ∧ s.wf := by
  obtain ⟨cs, rfl, _⟩ := okWide_struct Try.underlying34 hv
  obtain ⟨fuel, hf⟩ := h
  obtain ⟨s, hs, he⟩ := slot_cells hf
  simp only [Value.cells] at he
  obtain ⟨l⟩ := cs
  have hl : l = s.l := he
  subst hl
  exact ⟨s, rfl, hs⟩
set_option maxRecDepth 100000 in
theorem open_jump {r : Reach} {b0 : Nat} {v : Value} {d : DataW H} {p : List MemPlace} (hv : Value.okWide Try.prog w r b0 44 v) (h : DataW.Trod enc Try.prog w base spare held 44 v d p) :
    ∃ j : J, v = .agg #[.int .u64 j.pc, .bool j.call, .bool j.ret, .bool j.cond, .bool j.taken, .int .u64 j.target] ∧ j.wf := by
  obtain ⟨cs, rfl, _⟩ := okWide_struct Try.underlying44 hv
  obtain ⟨fuel, hf⟩ := h
  obtain ⟨s, hs, he⟩ := jump_cells hf
  simp only [Value.cells] at he
  obtain ⟨l⟩ := cs
  have hl : l = s.l := he
  subst hl
  exact ⟨s, rfl, hs⟩

/-- A call of the queue's scripts: tappetlaw22.Op. -/
structure Op22 where
  kind : Int
  s : S
/-- A call of the predictor's scripts: tappetlaw21.Op. -/
structure Op21 where
  pc : Int
  j : J
  learns : Bool
  squash : Bool
/-- A call of the front's scripts: tappetlaw27.Op. -/
structure Op27 where
  kind : Int
  pc : Int
  epoch : Int
  bits : Int
  fault : Int
  j : J
def Op22.l (o : Op22) : List Value := .int .i64 o.kind :: o.s.l
def Op21.l (o : Op21) : List Value := .int .u64 o.pc :: o.j.l ++ [.bool o.learns, .bool o.squash]
def Op27.l (o : Op27) : List Value := [.int .i64 o.kind, .int .u64 o.pc, .int .i64 o.epoch, .int .u32 o.bits, .int .i64 o.fault] ++ o.j.l
def Op22.wf (o : Op22) : Prop := (Lit.int .i64 o.kind).wf = true ∧ o.s.wf
def Op21.wf (o : Op21) : Prop := (Lit.int .u64 o.pc).wf = true ∧ o.j.wf
def Op27.wf (o : Op27) : Prop := (Lit.int .i64 o.kind).wf = true ∧ (Lit.int .u64 o.pc).wf = true ∧ (Lit.int .i64 o.epoch).wf = true ∧ (Lit.int .u32 o.bits).wf = true ∧ (Lit.int .i64 o.fault).wf = true ∧ o.j.wf

theorem op22_cells {fuel : Nat} {cs : List Value} {x : DataW H × List MemPlace} (h : DataW.trod enc Try.prog w base spare held fuel 52 cs = some x) : ∃ o : Op22, o.wf ∧ cs = o.l := by
  have hl : cs.length = 6 := by obtain ⟨_, _, _, _, hl, _⟩ := DataW.trod_struct Try.underlying52 h; exact hl.trans (by kernel_rfl)
  obtain ⟨z0, e0, w0⟩ := int_at Try.underlying52 h 0 3 0 rfl Try.underlying3 (by kernel_rfl)
  obtain ⟨n, y, hs⟩ := part_at Try.underlying52 h 1 34 1 5 rfl (by kernel_rfl)
  obtain ⟨s, hw, he⟩ := slot_cells hs
  match cs, hl with
  | [a0, a1, a2, a3, a4, a5], _ =>
    simp at e0
    subst e0
    refine ⟨⟨z0, s⟩, ⟨w0, hw⟩, ?_⟩
    show _ :: [a1, a2, a3, a4, a5] = _
    rw [show [a1, a2, a3, a4, a5] = s.l from he]
    rfl
theorem op21_cells {fuel : Nat} {cs : List Value} {x : DataW H × List MemPlace} (h : DataW.trod enc Try.prog w base spare held fuel 60 cs = some x) : ∃ o : Op21, o.wf ∧ cs = o.l := by
  have hl : cs.length = 9 := by obtain ⟨_, _, _, _, hl, _⟩ := DataW.trod_struct Try.underlying60 h; exact hl.trans (by kernel_rfl)
  obtain ⟨z0, e0, w0⟩ := int_at Try.underlying60 h 0 29 0 rfl Try.underlying29 (by kernel_rfl)
  obtain ⟨n, y, hs⟩ := part_at Try.underlying60 h 1 44 1 6 rfl (by kernel_rfl)
  obtain ⟨z7, e7⟩ := bool_at Try.underlying60 h 2 4 7 rfl Try.underlying4 (by kernel_rfl)
  obtain ⟨z8, e8⟩ := bool_at Try.underlying60 h 3 4 8 rfl Try.underlying4 (by kernel_rfl)
  obtain ⟨s, hw, he⟩ := jump_cells hs
  match cs, hl with
  | [a0, a1, a2, a3, a4, a5, a6, a7, a8], _ =>
    simp at e0 e7 e8
    subst e0 e7 e8
    refine ⟨⟨z0, s, z7, z8⟩, ⟨w0, hw⟩, ?_⟩
    show _ :: ([a1, a2, a3, a4, a5, a6] ++ _) = _
    rw [show [a1, a2, a3, a4, a5, a6] = s.l from he]
    rfl
theorem op27_cells {fuel : Nat} {cs : List Value} {x : DataW H × List MemPlace} (h : DataW.trod enc Try.prog w base spare held fuel 90 cs = some x) : ∃ o : Op27, o.wf ∧ cs = o.l := by
  have hl : cs.length = 11 := by obtain ⟨_, _, _, _, hl, _⟩ := DataW.trod_struct Try.underlying90 h; exact hl.trans (by kernel_rfl)
  obtain ⟨z0, e0, w0⟩ := int_at Try.underlying90 h 0 3 0 rfl Try.underlying3 (by kernel_rfl)
  obtain ⟨z1, e1, w1⟩ := int_at Try.underlying90 h 1 29 1 rfl Try.underlying29 (by kernel_rfl)
  obtain ⟨z2, e2, w2⟩ := int_at Try.underlying90 h 2 3 2 rfl Try.underlying3 (by kernel_rfl)
  obtain ⟨z3, e3, w3⟩ := int_at Try.underlying90 h 3 32 3 rfl Try.underlying32 (by kernel_rfl)
  obtain ⟨z4, e4, w4⟩ := int_at Try.underlying90 h 4 3 4 rfl Try.underlying3 (by kernel_rfl)
  obtain ⟨n, y, hs⟩ := part_at Try.underlying90 h 5 44 5 6 rfl (by kernel_rfl)
  obtain ⟨s, hw, he⟩ := jump_cells hs
  match cs, hl with
  | [a0, a1, a2, a3, a4, a5, a6, a7, a8, a9, a10], _ =>
    simp at e0 e1 e2 e3 e4
    subst e0 e1 e2 e3 e4
    refine ⟨⟨z0, z1, z2, z3, z4, s⟩, ⟨w0, w1, w2, w3, w4, hw⟩, ?_⟩
    show _ :: _ :: _ :: _ :: _ :: [a5, a6, a7, a8, a9, a10] = _
    rw [show [a5, a6, a7, a8, a9, a10] = s.l from he]
    rfl

/-- A slice of structs: each element's cells. -/
def RowOf {α : Type} (w : World) (a : Option Addr) (len C : Nat) (l : α → List Value) (wf : α → Prop) : Prop :=
  ∀ i, i < len → ∃ (b off : Nat) (x : α), a = some ⟨b, off, none⟩ ∧ b < w.heap.size ∧ wf x ∧ ∀ j, j < C → w.cell? ⟨b, off + i * C + j, none⟩ = (l x)[j]?

theorem open_row {α : Type} {t e C : Nat} {a : Option Addr} {len cap : Nat} {d : DataW H} {p : List MemPlace} {l : α → List Value} {wf : α → Prop} (ht : Try.prog.underlying t = some (.slice e)) (hC : Try.prog.cellsOf e = C) (hp : 0 < C)
    (hx : ∀ (n : Nat) (cs : List Value) (x : DataW H × List MemPlace), DataW.trod enc Try.prog w base spare held n e cs = some x → ∃ o : α, wf o ∧ cs = l o)
    (h : DataW.Trod enc Try.prog w base spare held t (.slice a len cap) d p) : len ≤ 9223372036854775807 ∧ RowOf w a len C l wf := by
  obtain ⟨hl, hr⟩ := open_structs ht hC hp h
  refine ⟨hl, fun i hi => ?_⟩
  obtain ⟨b, off, cs, n, y, ha, hb, _, hc, ht⟩ := hr i hi
  obtain ⟨o, ho, rfl⟩ := hx _ _ _ ht
  exact ⟨b, off, o, ha, hb, ho, hc⟩
theorem open_op22 {a : Option Addr} {len cap : Nat} {d : DataW H} {p : List MemPlace} (h : DataW.Trod enc Try.prog w base spare held 49 (.slice a len cap) d p) : len ≤ 9223372036854775807 ∧ RowOf w a len 6 Op22.l Op22.wf :=
  open_row Try.underlying49 (by kernel_rfl) (by omega) (fun _ _ _ h => op22_cells h) h
theorem open_op21 {a : Option Addr} {len cap : Nat} {d : DataW H} {p : List MemPlace} (h : DataW.Trod enc Try.prog w base spare held 58 (.slice a len cap) d p) : len ≤ 9223372036854775807 ∧ RowOf w a len 9 Op21.l Op21.wf :=
  open_row Try.underlying58 (by kernel_rfl) (by omega) (fun _ _ _ h => op21_cells h) h
theorem open_op27 {a : Option Addr} {len cap : Nat} {d : DataW H} {p : List MemPlace} (h : DataW.Trod enc Try.prog w base spare held 83 (.slice a len cap) d p) : len ≤ 9223372036854775807 ∧ RowOf w a len 11 Op27.l Op27.wf :=
  open_row Try.underlying83 (by kernel_rfl) (by omega) (fun _ _ _ h => op27_cells h) h
theorem open_jumps {a : Option Addr} {len cap : Nat} {d : DataW H} {p : List MemPlace} (h : DataW.Trod enc Try.prog w base spare held 62 (.slice a len cap) d p) : len ≤ 9223372036854775807 ∧ RowOf w a len 6 J.l J.wf :=
  open_row Try.underlying62 (by kernel_rfl) (by omega) (fun _ _ _ h => jump_cells h) h
theorem bool_cells {fuel : Nat} {cs : List Value} {x : DataW H × List MemPlace} (h : DataW.trod enc Try.prog w base spare held fuel 4 cs = some x) : ∃ o : Bool, True ∧ cs = [.bool o] := by
  obtain ⟨z, e, _⟩ := DataW.trod_bool Try.underlying4 h
  exact ⟨z, trivial, e⟩
theorem open_bools {a : Option Addr} {len cap : Nat} {d : DataW H} {p : List MemPlace} (h : DataW.Trod enc Try.prog w base spare held 81 (.slice a len cap) d p) : len ≤ 9223372036854775807 ∧ RowOf w a len 1 (fun o : Bool => [.bool o]) (fun _ => True) :=
  open_row Try.underlying81 (by kernel_rfl) (by omega) (fun _ _ _ h => bool_cells h) h
end
end Go.Proofs.Ytkjgklpdoomjcaa

/- More on a slice of the call's own: appended to, whatever is appended (nothing, too), at a step of a region that draws its order. -/
import Derived.Test.YtkjgklpdoomjcaaRow
namespace Go.Proofs.Ytkjgklpdoomjcaa
open Go.RowKit
set_option linter.unusedVariables false
set_option linter.unusedSimpArgs false

/-- What is new is no elder block. -/
theorem only_new {a b c : World} {k : Option Nat} (h : a.grownBy b none) (g : b.grownBy c k) (hk : ∀ j, k = some j → a.heap.size ≤ j) : a.grownBy c none :=
  ⟨g.os.trans h.os, g.tape.trans h.tape, g.output.trans h.output, Nat.le_trans h.size g.size, fun i hi hne => (g.block i (Nat.lt_of_lt_of_le hi h.size) (fun e => by have := hk i e.symm; omega)).trans (h.block i hi hne)⟩
/-- Elder blocks that were not the slice's are not. -/
def After (w : World) (a a' : Option Addr) : Prop := ∀ g, g < w.heap.size → Apart a g → Apart a' g
theorem After.refl (w : World) (a : Option Addr) : After w a a := fun _ _ h => h
theorem After.trans {w w' : World} {a b c : Option Addr} (h : After w a b) (hs : w.heap.size ≤ w'.heap.size) (k : After w' b c) : After w a c := fun g hg ha => k g (Nat.lt_of_lt_of_le hg hs) (h g hg ha)

section
variable {P : Program} {w : World} {base size n cap : Nat} {a : Option Addr} {xs : List Value}
theorem SL.own_ge (h : SL w base size a n cap xs) : ∀ k, own a = some k → base ≤ k := fun k e => by
  cases a with
  | none => cases e
  | some ad =>
    injection e with e
    obtain ⟨g, off, rfl, h1, _⟩ := h.lies ad rfl
    subst e
    exact h1
theorem SL.after (h : SL w base size a n cap xs) {w0 : World} (hb : w0.heap.size ≤ base) (a0 : Option Addr) : After w0 a0 a := fun g hg _ => h.apart_lt (Nat.lt_of_lt_of_le hg hb)
theorem SL.more (h : SL w base size a n cap xs) {b2 : Nat} (hb : b2 ≤ base) : SL w b2 size a n cap xs :=
  ⟨h.len, h.le, h.max, h.zero, fun ad e => by
    obtain ⟨g, off, e1, h1, r⟩ := h.lies ad e
    exact ⟨g, off, e1, Nat.le_trans hb h1, r⟩⟩
/-- The slice as what is appended. -/
theorem SL.src (h : SL w base size a n cap xs) {tx e' : TypeId} (hk : P.underlying tx = some (.slice e')) (h1 : ∀ u ∈ xs, u.oneCell' = true) : Src P size tx (.slice a n cap) n xs w := by
  cases a with
  | none =>
    have h0 := h.zero rfl
    have hl := h.le
    have hn : n = 0 := by omega
    subst hn
    have hx : xs = [] := List.eq_nil_of_length_eq_zero (by simpa using h.len)
    subst hx
    exact Src.ofNil w hk cap
  | some ad =>
    obtain ⟨g, off, rfl, _, _, _, _, h5⟩ := h.lies ad rfl
    exact Src.ofSlice w hk _ n cap xs h.len (fun j u hu => by rw [addr_add]; exact h5 j u hu) h1

theorem run_append_all (w : World) (base : Nat) (t ty e : TypeId) (i : TypeInfo) (z : Value) (size bytes : Nat) (ht : P.underlying t = some (.slice e)) (hi : P.info? e = some i) (hz : i.zero = some z) (hsize : i.size = size) (hby : i.bytes = bytes) (hzs : z.cells.size = size)
    (a : Option Addr) (n cap : Nat) (xs : List Value) (h : SL w base size a n cap xs) (x : Value) (m : Nat) (news : List Value) (hs : Src P size t x m news w)
    (h63 : n + m ≤ maxLen) (hbytes : (n + m) * bytes ≤ 140737488355328) (hbase : base ≤ w.heap.size) :
    ∃ a' cap' w', (Builtin.append_ #[t, t] ty #[.slice a n cap, x]).run P w = .ok (.slice a' (n + m) cap') w' ∧ SL w' base size a' (n + m) cap' (xs ++ news) ∧ w.grownBy w' (own a) ∧ (own a' = own a ∨ own a' = some w.heap.size) := by
  by_cases hm : 0 < m ∨ 0 < cap
  · exact run_append_sl w base t ty e i z size bytes ht hi hz hsize hby hzs a n cap xs h x m news hs hm h63 hbytes hbase
  · have hm0 : m = 0 := by omega
    have hc0 : cap = 0 := by omega
    have hl := h.le
    have hn0 : n = 0 := by omega
    subst hm0 hc0 hn0
    have hx : news = [] := List.eq_nil_of_length_eq_zero (by simpa using hs.newsLen)
    subst hx
    subst hsize
    refine ⟨a, 0, w, ?_, by simpa using h, World.grownBy.refl _ _, .inl rfl⟩
    rcases hs.kind with ⟨e', hk⟩ | hk <;> cases a <;> simp [Builtin.append_, run_underlying ht, sizeOf, typeInfo, hi, hs.len, hs.cells, storeCells]

/-- At a step of a region that draws its order. -/
theorem step_append_all {ops : Array Oper} {o : Oper} {ac : Act} {K : Act → World → Prop} {Q : Exit → Act → World → Prop} {E : Prop} (w : World) (hgd : o.guard = none) (s xo : Operand) (t : TypeId)
    (ho : o.op = .call { callee := .builtin .append, args := #[s, xo], argTypes := #[t, t] })
    (base : Nat) (e : TypeId) (i : TypeInfo) (z : Value) (size bytes : Nat) (ht : P.underlying t = some (.slice e)) (hi : P.info? e = some i) (hz : i.zero = some z) (hsize : i.size = size) (hby : i.bytes = bytes) (hzs : z.cells.size = size)
    (a : Option Addr) (n cap : Nat) (xs : List Value) (hv : ac.eval s = .slice a n cap) (h : SL w base size a n cap xs) (x : Value) (m : Nat) (news : List Value) (hx : ac.eval xo = x) (hs : Src P size t x m news w)
    (h63 : n + m ≤ maxLen) (hbytes : (n + m) * bytes ≤ 140737488355328) (hbase : base ≤ w.heap.size)
    (hK : ∀ a' cap' w', SL w' base size a' (n + m) cap' (xs ++ news) → w.grownBy w' (own a) → (own a' = own a ∨ own a' = some w.heap.size) → K (ac.put o.dst (.slice a' (n + m) cap')) w') :
    if Region.wanted o (yielded ops ac.tmps) = true then Oper.wp P o ac w K Q else E := by
  have hw : Region.wanted o (yielded ops ac.tmps) = true := by simp [Region.wanted, hgd]
  rw [if_pos hw]
  obtain ⟨a', cap', w', hrun, r1, r2, r3⟩ := run_append_all (P := P) w base t o.type e i z size bytes ht hi hz hsize hby hzs a n cap xs h x m news hs h63 hbytes hbase
  unfold Oper.wp
  simp [execOp, ho, resolve, invoke, builtin, hv, hx, hrun, Result.andThen]
  exact hK a' cap' w' r1 r2 r3
end
end Go.Proofs.Ytkjgklpdoomjcaa

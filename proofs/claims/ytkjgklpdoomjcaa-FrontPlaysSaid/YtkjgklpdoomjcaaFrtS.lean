/- The law's state beside the front: what the document says that it has; wants. -/
import Derived.Test.YtkjgklpdoomjcaaFrtG
import Derived.Test.YtkjgklpdoomjcaaPredS
import Derived.Test.YtkjgklpdoomjcaaQueueT
namespace Go.Proofs.Ytkjgklpdoomjcaa.Wide
open Go.RowKit
set_option linter.unusedVariables false
set_option linter.unusedSimpArgs false

/-- Block g holds the same in both worlds. -/
def Same (w w' : World) (g : Nat) : Prop := w'.heap[g]? = w.heap[g]?
theorem SL.same {w w' : World} {base size n cap : Nat} {a : Option Addr} {xs : List Value} (h : SL w base size a n cap xs) (hs : w.heap.size ≤ w'.heap.size) (hb : ∀ ad, a = some ad → Same w w' ad.block) : SL w' base size a n cap xs :=
  ⟨h.len, h.le, h.max, h.zero, fun ad e => by
    obtain ⟨gg, off, rfl, h1, h2, h3, h4, h5⟩ := h.lies ad e
    have hb := hb _ e
    have hc : ∀ o, w'.cell? ⟨gg, o, none⟩ = w.cell? ⟨gg, o, none⟩ := fun o => World.cell?_of_block (w := w) (a := ⟨gg, o, none⟩) hb
    have hf : ∀ o, w'.frozen? ⟨gg, o, none⟩ = w.frozen? ⟨gg, o, none⟩ := fun o => World.frozen?_of_block (w := w) (a := ⟨gg, o, none⟩) hb
    exact ⟨gg, off, rfl, h1, Nat.lt_of_lt_of_le h2 hs, fun o => (hf o).trans (h3 o), fun j hj => by rw [hc]; exact h4 j hj, fun j u hu => (hc _).trans (h5 j u hu)⟩⟩
/-- The cells of the state: pc, epoch, fault, l, guess. -/
def stc (rb : Nat) (pc : Int) (ep : Nat) (fl : Bool) (a : Option Addr) (n cap : Nat) : Nat → Value
  | 0 => .int .u64 pc
  | 1 => .int .i64 ep
  | 2 => .bool fl
  | 3 => .slice a n cap
  | _ => .pointer (some ⟨rb, 0, none⟩)
/-- The state in block sb, its predictor in rb, its slots in a's block, its stack in c's. -/
structure RT (w : World) (sb rb : Nat) (pc : Int) (fl : Bool) (L : List S) (ep : Nat) (p : P) (a : Option Addr) (cap : Nat) (c : Option Addr) (k : Nat) : Prop where
  sc : CellsAt w sb 5 (stc rb pc ep fl a L.length cap)
  sl : Slots w 0 a cap L
  ra : RAt w rb c k p
  sr : sb ≠ rb
  as_ : Apart a sb
  ar : Apart a rb
  cs : Apart c sb
  ac : ∀ ad, a = some ad → Apart c ad.block
/-- Block g is none of the state's. -/
structure Free (sb rb : Nat) (a c : Option Addr) (g : Nat) : Prop where
  s : g ≠ sb
  r : g ≠ rb
  a : Apart a g
  c : Apart c g
section
variable {w w' : World} {sb rb : Nat} {pc : Int} {fl : Bool} {L : List S} {ep : Nat} {p : P} {a : Option Addr} {cap : Nat} {c : Option Addr} {k : Nat}
theorem RT.same (h : RT w sb rb pc fl L ep p a cap c k) (hs : w.heap.size ≤ w'.heap.size) (hg : ∀ g, g < w.heap.size → ¬ Free sb rb a c g → Same w w' g) : RT w' sb rb pc fl L ep p a cap c k := by
  have s1 : Same w w' sb := hg sb h.sc.lt fun f => f.s rfl
  have s2 : Same w w' rb := hg rb h.ra.lt fun f => f.r rfl
  have s3 : ∀ ad, a = some ad → Same w w' ad.block := fun ad e => by
    obtain ⟨g, off, e2, _, hlt, _⟩ := SL.lies h.sl ad e
    exact hg _ (by rw [e2]; exact hlt) fun f => f.a ad e rfl
  have s4 : ∀ ad, c = some ad → Same w w' ad.block := fun ad e => by
    obtain ⟨g, off, e2, _, hlt, _⟩ := h.ra.sl.lies ad e
    exact hg _ (by rw [e2]; exact hlt) fun f => f.c ad e rfl
  exact ⟨h.sc.of_block s1, SL.same h.sl hs s3, ⟨h.ra.cells.of_block s2, h.ra.hist, h.ra.n, h.ra.ct, SL.same h.ra.sl hs s4, h.ra.ap⟩, h.sr, h.as_, h.ar, h.cs, h.ac⟩
theorem RT.grown (h : RT w sb rb pc fl L ep p a cap c k) {r : Option Nat} (g : w.grownBy w' r) (hr : ∀ x, r = some x → Free sb rb a c x) : RT w' sb rb pc fl L ep p a cap c k :=
  h.same g.size fun x hx hf => g.block x hx (fun e => hf (hr x e.symm))
theorem RT.keep (h : RT w sb rb pc fl L ep p a cap c k) (g : w.grownBy w' none) : RT w' sb rb pc fl L ep p a cap c k := h.grown g (fun _ e => by cases e)
theorem RT.only3 (h : RT w sb rb pc fl L ep p a cap c k) {b qb pb : Nat} (g : Only3 w w' b qb pb) (f1 : Free sb rb a c b) (f2 : Free sb rb a c qb) (f3 : Free sb rb a c pb) : RT w' sb rb pc fl L ep p a cap c k :=
  h.same g.size fun x hx hf => g.block x hx (fun e => hf (e ▸ f1)) (fun e => hf (e ▸ f2)) (fun e => hf (e ▸ f3))
theorem RT.c0 (h : RT w sb rb pc fl L ep p a cap c k) : w.cell? ⟨sb, 0, none⟩ = some (.int .u64 pc) := h.sc.cell 0 (by omega)
theorem RT.c1 (h : RT w sb rb pc fl L ep p a cap c k) : w.cell? ⟨sb, 1, none⟩ = some (.int .i64 ep) := h.sc.cell 1 (by omega)
theorem RT.c2 (h : RT w sb rb pc fl L ep p a cap c k) : w.cell? ⟨sb, 2, none⟩ = some (.bool fl) := h.sc.cell 2 (by omega)
theorem RT.c3 (h : RT w sb rb pc fl L ep p a cap c k) : w.cell? ⟨sb, 3, none⟩ = some (.slice a L.length cap) := h.sc.cell 3 (by omega)
theorem RT.c4 (h : RT w sb rb pc fl L ep p a cap c k) : w.cell? ⟨sb, 4, none⟩ = some (.pointer (some ⟨rb, 0, none⟩)) := h.sc.cell 4 (by omega)
end
/-- The front and the state beside it: both say the same. -/
structure FT (W : World) (b qb pb sb rb : Nat) (pc : Int) (fl : Bool) (L : List S) (ep : Nat) (p : P) (a : Option Addr) (cap : Nat) (c : Option Addr) (k : Nat) (w : World) : Prop where
  fs : FS w w b qb pb pc fl L ep p
  rt : RT w sb rb pc fl L ep p a cap c k
  f1 : Free sb rb a c b
  f2 : Free sb rb a c qb
  f3 : Free sb rb a c pb
  gb : W.heap.size ≤ b
  gq : W.heap.size ≤ qb
  gp : W.heap.size ≤ pb
  gs : W.heap.size ≤ sb
  gr : W.heap.size ≤ rb
  ga : ∀ ad, a = some ad → W.heap.size ≤ ad.block
  bel : Below W.heap.size W w
  pc64 : In64 pc
  pw : PW p
section
variable {W w w' : World} {b qb pb sb rb : Nat} {pc : Int} {fl : Bool} {L : List S} {ep : Nat} {p : P} {a : Option Addr} {cap : Nat} {c : Option Addr} {k : Nat}
theorem FT.big (h : FT W b qb pb sb rb pc fl L ep p a cap c k w) : W.heap.size ≤ w.heap.size := Nat.le_of_lt (Nat.lt_of_le_of_lt h.gs h.rt.sc.lt)
theorem FT.keep (h : FT W b qb pb sb rb pc fl L ep p a cap c k w) (g : w.grownBy w' none) : FT W b qb pb sb rb pc fl L ep p a cap c k w' :=
  ⟨(h.fs.keep g).base, h.rt.keep g, h.f1, h.f2, h.f3, h.gb, h.gq, h.gp, h.gs, h.gr, h.ga, below_none h.bel g h.big, h.pc64, h.pw⟩
theorem FT.drewN (h : FT W b qb pb sb rb pc fl L ep p a cap c k w) (n : Nat) : FT W b qb pb sb rb pc fl L ep p a cap c k (w.drewN n) := h.keep (only_drewN (World.grownBy.refl _ _) n)
theorem FT.alloc (h : FT W b qb pb sb rb pc fl L ep p a cap c k w) (o : Obj) : FT W b qb pb sb rb pc fl L ep p a cap c k (w.alloc o) := h.keep (only_alloc (World.grownBy.refl _ _) o)
/-- Behind a call of the front that leaves it as it was. -/
theorem FT.front (h : FT W b qb pb sb rb pc fl L ep p a cap c k w) (hf : FS w w' b qb pb pc fl L ep p) : FT W b qb pb sb rb pc fl L ep p a cap c k w' :=
  ⟨hf.base, h.rt.only3 hf.bel h.f1 h.f2 h.f3, h.f1, h.f2, h.f3, h.gb, h.gq, h.gp, h.gs, h.gr, h.ga,
    ⟨hf.bel.os.trans h.bel.os, hf.bel.tape.trans h.bel.tape, hf.bel.output.trans h.bel.output, Nat.le_trans h.bel.size hf.bel.size, fun i hi => (hf.bel.block i (Nat.lt_of_lt_of_le hi h.big) (by have := h.gb; omega) (by have := h.gq; omega) (by have := h.gp; omega)).trans (h.bel.block i hi)⟩, h.pc64, h.pw⟩
theorem FT.len (h : FT W b qb pb sb rb pc fl L ep p a cap c k w) : L.length ≤ 8 := h.fs.len
end
/-- Is there something that is wanted? -/
def wantsB (fl : Bool) (L : List S) : Bool := decide (L.length < 8) && !fl
theorem wants_any (w : World) (sb rb : Nat) (pc : Int) (fl : Bool) (L : List S) (ep : Nat) (p : P) (a : Option Addr) (cap : Nat) (c : Option Addr) (k : Nat) (h : RT w sb rb pc fl L ep p a cap c k) :
    Calls Try.prog 54 #[.pointer (some ⟨sb, 0, none⟩)] w fun e w' => e = .returned (.bool (wantsB fl L)) ∧ w' = w := by
  have c2 := h.c2
  have c3 := h.c3
  have hlt := h.sc.lt
  unfold wantsB
  clear h
  generalize L.length = N at *
  by_cases hn : N < 8
  · have d : decide ((N : Int) < 8) = true := by simp; omega
    have d2 : decide (N < 8) = true := by simp; omega
    rw [d2]
    clear d2
    cases fl
    all_goals
      go_enter Try.func54, Try.ntmps54
      go_wp2_with fail
      go_ret
      exact ⟨rfl, rfl⟩
  · have d : decide ((N : Int) < 8) = false := by simp; omega
    have d2 : decide (N < 8) = false := by simp; omega
    rw [d2]
    clear d2
    go_enter Try.func54, Try.ntmps54
    go_wp2_with fail
    go_ret
    exact ⟨rfl, rfl⟩
end Go.Proofs.Ytkjgklpdoomjcaa.Wide

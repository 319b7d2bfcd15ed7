/- CONTRACTS OF front.Front: New, Want, Got; the nil one; FrontNil: the walk. -/
import Derived.Test.YtkjgklpdoomjcaaQueueL
import Derived.Test.YtkjgklpdoomjcaaOpenT
import Derived.Test.YtkjgklpdoomjcaaPredN
import Derived.Test.YtkjgklpdoomjcaaPredM
import Derived.Test.YtkjgklpdoomjcaaPredG
import Derived.Laws.EntriesVeiled
import Derived.Deep.RegionWith
import Derived.Deep.QuietTactic
namespace Go.Proofs.Ytkjgklpdoomjcaa
open Go.RowKit
set_option linter.unusedVariables false
set_option linter.unusedSimpArgs false
set_option maxHeartbeats 1600000
abbrev guessF (b : Nat) : Value := .func (.func 28) #[.pointer (some ⟨b, 0, none⟩)] #[]
def FA (w : World) (b qb pb : Nat) (pc : Int) (ended : Bool) : Prop :=
  w.cell? ⟨b, 0, none⟩ = some (.pointer (some ⟨pb, 0, none⟩)) ∧ w.cell? ⟨b, 1, none⟩ = some (.pointer (some ⟨qb, 0, none⟩)) ∧ w.cell? ⟨b, 2, none⟩ = some (guessF pb) ∧ w.cell? ⟨b, 3, none⟩ = some (.int .u64 pc) ∧ w.cell? ⟨b, 4, none⟩ = some (.bool ended) ∧ (∀ o, w.frozen? ⟨b, o, none⟩ = false) ∧ b < w.heap.size
theorem FA.of_block {w w' : World} {b qb pb : Nat} {pc : Int} {ended : Bool} (h : FA w b qb pb pc ended) (hb : w'.heap[b]? = w.heap[b]?) (hs : w.heap.size ≤ w'.heap.size) : FA w' b qb pb pc ended := by
  obtain ⟨h0, h1, h2, h3, h4, hf, hl⟩ := h
  have g : ∀ o, w'.cell? ⟨b, o, none⟩ = w.cell? ⟨b, o, none⟩ := fun o => World.cell?_of_block (w := w) (a := ⟨b, o, none⟩) hb
  exact ⟨(g 0).trans h0, (g 1).trans h1, (g 2).trans h2, (g 3).trans h3, (g 4).trans h4, fun o => (World.frozen?_of_block (w := w) (a := ⟨b, o, none⟩) hb).trans (hf o), Nat.lt_of_lt_of_le hl hs⟩
theorem FA.grown {w w' : World} {b qb pb : Nat} {pc : Int} {ended : Bool} (h : FA w b qb pb pc ended) {row : Option Nat} (g : w.grownBy w' row) (hne : some b ≠ row) : FA w' b qb pb pc ended := h.of_block (g.block b h.2.2.2.2.2.2 hne) g.size
theorem sc_same {w : World} {a : Addr} {u v : Value} (h : w.cell? a = some u) : (w.setCell a v).cell? a = some v := World.cell?_setCell_same (h := h) ..
theorem sc_off {w : World} {b p q : Nat} {u v : Value} (h : w.cell? ⟨b, p, none⟩ = some u) (hne : q ≠ p) : (w.setCell ⟨b, q, none⟩ v).cell? ⟨b, p, none⟩ = some u := by
  rw [World.cell?_setCell_other (h := by intro e'; injection e' with _ e''; exact hne e'')]; exact h
theorem FA.set {w : World} {b qb pb : Nat} {pc : Int} {ended : Bool} (h : FA w b qb pb pc ended) (pc2 : Int) (e2 : Bool) : FA ((w.setCell ⟨b, 3, none⟩ (.int .u64 pc2)).setCell ⟨b, 4, none⟩ (.bool e2)) b qb pb pc2 e2 := by
  obtain ⟨h0, h1, h2, h3, h4, hf, hl⟩ := h
  exact ⟨sc_off (sc_off h0 (by omega)) (by omega), sc_off (sc_off h1 (by omega)) (by omega), sc_off (sc_off h2 (by omega)) (by omega), sc_off (sc_same h3) (by omega), sc_same (sc_off h4 (by omega)), fun o => by simp only [World.frozen?_setCell]; exact hf o, by simp only [size_setCell]; exact hl⟩
/-- A fetch unit, its queue, its predictor: all of them the call's own. -/
structure FS (W w : World) (b qb pb : Nat) (pc : Int) (ended : Bool) (l : List S) (ep : Nat) (p : P) : Prop where
  fa : FA w b qb pb pc ended
  ql : QL w qb l 8 ep
  pa : PAt w pb p
  bq : b ≠ qb
  bp : b ≠ pb
  qp : qb ≠ pb
  gb : W.heap.size ≤ b
  gq : W.heap.size ≤ qb
  gp : W.heap.size ≤ pb
  bel : Below W.heap.size W w
variable {W w w' : World} {b qb pb : Nat} {pc : Int} {ended : Bool} {l : List S} {ep : Nat} {p : P}
theorem FS.big (h : FS W w b qb pb pc ended l ep p) : W.heap.size ≤ w.heap.size := Nat.le_of_lt (Nat.lt_of_le_of_lt h.gb h.fa.2.2.2.2.2.2)
theorem FS.keep (h : FS W w b qb pb pc ended l ep p) (g : w.grownBy w' none) : FS W w' b qb pb pc ended l ep p :=
  ⟨h.fa.grown g (by simp), h.ql.grown g (by simp), h.pa.grown g (by simp), h.bq, h.bp, h.qp, h.gb, h.gq, h.gp, below_none h.bel g h.big⟩
theorem FS.drewN (h : FS W w b qb pb pc ended l ep p) (n : Nat) : FS W (w.drewN n) b qb pb pc ended l ep p := h.keep (only_drewN (World.grownBy.refl _ _) n)
theorem FS.drew (h : FS W w b qb pb pc ended l ep p) : FS W w.drew b qb pb pc ended l ep p := h.keep (only_drew (World.grownBy.refl _ _))
theorem FS.alloc (h : FS W w b qb pb pc ended l ep p) (o : Obj) : FS W (w.alloc o) b qb pb pc ended l ep p := h.keep (only_alloc (World.grownBy.refl _ _) o)
theorem FS.queue {l2 : List S} {ep2 : Nat} (h : FS W w b qb pb pc ended l ep p) (g : w.grownBy w' (some qb)) (hq : QL w' qb l2 8 ep2) : FS W w' b qb pb pc ended l2 ep2 p :=
  ⟨h.fa.grown g (fun e => h.bq (by injection e)), hq, h.pa.grown g (fun e => h.qp (by injection e with e; exact e.symm)), h.bq, h.bp, h.qp, h.gb, h.gq, h.gp, below_only h.bel g h.big h.gq⟩
theorem FS.pred {p2 : P} (h : FS W w b qb pb pc ended l ep p) (g : w.grownBy w' (some pb)) (hp : PAt w' pb p2) : FS W w' b qb pb pc ended l ep p2 :=
  ⟨h.fa.grown g (fun e => h.bp (by injection e)), h.ql.grown g (fun e => h.qp (by injection e)), hp, h.bq, h.bp, h.qp, h.gb, h.gq, h.gp, below_only h.bel g h.big h.gp⟩
theorem FS.set (h : FS W w b qb pb pc ended l ep p) (pc2 : Int) (e2 : Bool) : FS W ((w.setCell ⟨b, 3, none⟩ (.int .u64 pc2)).setCell ⟨b, 4, none⟩ (.bool e2)) b qb pb pc2 e2 l ep p := by
  have g : w.grownBy ((w.setCell ⟨b, 3, none⟩ (.int .u64 pc2)).setCell ⟨b, 4, none⟩ (.bool e2)) (some b) := only_setCell (p := ⟨b, 4, .none⟩) (only_setCell (p := ⟨b, 3, .none⟩) (World.grownBy.refl _ _) (.inl rfl) _) (.inl rfl) _
  exact ⟨h.fa.set _ _, h.ql.grown g (fun e => h.bq (by injection e with e; exact e.symm)), h.pa.grown g (fun e => h.bp (by injection e with e; exact e.symm)), h.bq, h.bp, h.qp, h.gb, h.gq, h.gp, below_only h.bel g h.big h.gb⟩
theorem FS.box (h : FS W w b qb pb pc ended l ep p) {c o : Nat} (hc1 : c ≠ b) (hc2 : c ≠ qb) (hc3 : c ≠ pb) (hc : W.heap.size ≤ c) (v : Value) : FS W (w.setCell ⟨c, o, none⟩ v) b qb pb pc ended l ep p := by
  have g : w.grownBy (w.setCell ⟨c, o, none⟩ v) (some c) := only_setCell (World.grownBy.refl _ _) (.inl rfl) _
  exact ⟨h.fa.grown g (fun e => hc1 (by injection e with e; exact e.symm)), h.ql.grown g (fun e => hc2 (by injection e with e; exact e.symm)), h.pa.grown g (fun e => hc3 (by injection e with e; exact e.symm)), h.bq, h.bp, h.qp, h.gb, h.gq, h.gp, below_only h.bel g h.big hc⟩
theorem FA.new (w : World) (qb pb : Nat) (pc : Int) (ended : Bool) (T : TypeId) : FA (w.alloc (.cells #[.pointer (some ⟨pb, 0, none⟩), .pointer (some ⟨qb, 0, none⟩), guessF pb, .int .u64 pc, .bool ended] T)) w.heap.size qb pb pc ended := by
  refine ⟨?_, ?_, ?_, ?_, ?_, fun o => World.frozen?_alloc_new .., by simp⟩ <;> (rw [World.cell?_alloc_new]; rfl)
def NF (W : World) (pc seed : Int) (e : Ending) (w' : World) : Prop := ∃ b qb pb, e = .returned (.pointer (some ⟨b, 0, none⟩)) ∧ FS W w' b qb pb pc false [] 0 (P.new seed)
set_option maxRecDepth 100000 in
theorem fnew (W : World) (seed pc : Int) (s0 : 0 ≤ seed) (s1 : seed < 18446744073709551616) : Calls Try.prog 37 #[.int .u64 seed, .int .u64 pc] W (NF W pc seed) := by
  have L := hide (lnew 8 W (by omega) (by omega))
  have N := hide (fun w => pnew_any seed w s0 s1)
  go_enter Try.func37, Try.ntmps37
  go_wp2_with fail
  refine L.out.mono ?_
  rintro e w1 ⟨rfl, hg, hz, hq⟩
  have B1 := hide (below_none (Below.refl W.heap.size W) hg (Nat.le_refl _))
  have Q1 := hide hq
  clear hg hq
  simp only []
  go_wp2_with fail
  refine (N.out _).mono ?_
  rintro e w2 ⟨rfl, hg, hz2, hp⟩
  have B2 := hide (below_none B1.out hg (Nat.le_of_lt hz))
  have Q2 := hide (Q1.out.grown hg (by simp))
  have P2 := hide hp
  have FF := hide (show FS W (w2.alloc (.cells #[.pointer (some ⟨w1.heap.size, 0, none⟩), .pointer (some ⟨W.heap.size, 0, none⟩), guessF w1.heap.size, .int .u64 pc, .bool false] 108)) w2.heap.size W.heap.size w1.heap.size pc false [] 0 (P.new seed) from
    ⟨FA.new w2 _ _ _ _ 108, Q2.out.alloc _, P2.out.alloc _, by omega, by omega, by omega, by omega, by omega, by omega, B2.out.alloc (by omega) _⟩)
  clear hg hp
  simp only []
  go_wp2_with fail
  go_ret
  exact ⟨_, _, _, rfl, FF.out⟩
/-- What a call leaves: an answer, and the unit so. -/
def FR (v : Value) (W : World) (b qb pb : Nat) (pc : Int) (ended : Bool) (l : List S) (ep : Nat) (p : P) (e : Ending) (w' : World) : Prop := e = .returned v ∧ FS W w' b qb pb pc ended l ep p
theorem FS.len (h : FS W w b qb pb pc ended l ep p) : l.length ≤ 8 := h.ql.len.1
set_option maxRecDepth 100000 in
theorem fwant_no (h : FS W w b qb pb pc ended l ep p) (hn : ended = true ∨ ended = false ∧ l.length = 8) : Calls Try.prog 39 #[.pointer (some ⟨b, 0, none⟩)] w (FR (.tuple #[.int .u64 0, .int .i64 0, .bool false]) W b qb pb pc ended l ep p) := by
  have H := hide h
  have R := hide (lroom h.ql)
  obtain ⟨f0, f1, f2, f3, f4, ff, fl⟩ := h.fa
  clear h
  rcases hn with rfl | ⟨rfl, hl⟩
  · go_enter Try.func39, Try.ntmps39
    go_wp2_with fail
    refine bodyPost_ret (v := .tuple #[.int .u64 0, .int .i64 0, .bool false]) (by simp [results, Try.results39, go_sem]) rfl ?_
    exact ⟨rfl, H.out⟩
  · rw [hl] at R
    have z8 : ((8 : Nat) : Int) - ((8 : Nat) : Int) = 0 := by omega
    rw [z8] at R
    clear z8
    go_enter Try.func39, Try.ntmps39
    go_wp2_with fail
    refine R.out.mono ?_
    rintro e w1 ⟨rfl, k, rfl⟩
    have H1 := hide (H.out.drewN k)
    generalize w.drewN k = wk at *
    simp only []
    go_wp2_with fail
    refine bodyPost_ret (v := .tuple #[.int .u64 0, .int .i64 0, .bool false]) (by simp [results, Try.results39, go_sem]) rfl ?_
    exact ⟨rfl, H1.out⟩
set_option maxRecDepth 100000 in
theorem fwant_yes (h : FS W w b qb pb pc false l ep p) (hn : l.length < 8) : Calls Try.prog 39 #[.pointer (some ⟨b, 0, none⟩)] w (FR (.tuple #[.int .u64 pc, .int .i64 ep, .bool true]) W b qb pb pc false l ep p) := by
  have H := hide h
  have R := hide (lroom h.ql)
  obtain ⟨f0, f1, f2, f3, f4, ff, fl⟩ := h.fa
  clear h
  have t1 : ((((8 : Nat) : Int) - (l.length : Int)) == 0) = false := beq_eq_false_iff_ne.2 (by omega)
  have t2 : ¬ (((8 : Nat) : Int) - (l.length : Int) = 0) := by omega
  generalize ((8 : Nat) : Int) - (l.length : Int) = room at *
  go_enter Try.func39, Try.ntmps39
  go_wp2_with fail
  refine R.out.mono ?_
  rintro e w1 ⟨rfl, k, rfl⟩
  have H1 := hide (H.out.drewN k)
  clear f0 f1 f2 f3 f4 ff fl H R
  generalize w.drewN k = wk at *
  obtain ⟨f0, f1, f2, f3, f4, ff, fl⟩ := H1.out.fa
  have E := hide (fun n : Nat => show Calls Try.prog 24 #[.pointer (some ⟨qb, 0, none⟩)] (wk.drewN n) fun e w' => e = .returned (.int .i64 ep) ∧ w' = wk.drewN n from (lepoch (H1.out.drewN n).ql).mono fun _ _ h => ⟨h.1, h.2.symm⟩)
  simp only []
  go_wp2_with fail
  go_quiet ((go_at_call 24; exact Calls.quiet_of_same (E.out _)))
  have H2 := hide (H1.out.drewN nq)
  generalize wk.drewN nq = w3 at *
  go_wp2_with fail
  refine bodyPost_ret (v := .tuple #[.int .u64 pc, .int .i64 ep, .bool true]) (by simp [results, Try.results39, go_sem]) rfl ?_
  exact ⟨rfl, H2.out⟩
end Go.Proofs.Ytkjgklpdoomjcaa


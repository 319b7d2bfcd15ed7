/- Contracts of front.Front against any world: nothing but its three blocks turns: New, Want, Got, awake. -/
import Derived.Test.YtkjgklpdoomjcaaQueueL
import Derived.Test.YtkjgklpdoomjcaaOpenT
import Derived.Test.YtkjgklpdoomjcaaPredN
import Derived.Test.YtkjgklpdoomjcaaPredM
import Derived.Test.YtkjgklpdoomjcaaPredG
import Derived.Laws.EntriesVeiled
import Derived.Deep.RegionWith
import Derived.Deep.QuietTactic
namespace Go.Proofs.Ytkjgklpdoomjcaa.Wide
open Go.RowKit
set_option linter.unusedVariables false
set_option linter.unusedSimpArgs false
set_option maxHeartbeats 1600000
abbrev guessF (b : Nat) : Value := .func (.func 28) #[.pointer (some ⟨b, 0, none⟩)] #[]
def FA (w : World) (b qb pb : Nat) (pc : Int) (ended : Bool) : Prop :=
  w.cell? ⟨b, 0, none⟩ = some (.pointer (some ⟨pb, 0, none⟩)) ∧ w.cell? ⟨b, 1, none⟩ = some (.pointer (some ⟨qb, 0, none⟩)) ∧ w.cell? ⟨b, 2, none⟩ = some (guessF pb) ∧ w.cell? ⟨b, 3, none⟩ = some (.int .u64 pc) ∧ w.cell? ⟨b, 4, none⟩ = some (.bool ended) ∧ (∀ o, w.frozen? ⟨b, o, none⟩ = false) ∧ b < w.heap.size
theorem FA.of_block {w w' : World} {b qb pb : Nat} {pc : Int} {ended : Bool} (h : FA w b qb pb pc ended) (hb : w'.heap[b]? = w.heap[b]?) (hs : w.heap.size ≤ w'.heap.size) : FA w' b qb pb pc ended := by
  obtain ⟨h0, h1, h2, h3, h4, hf, hl⟩ := h
  have g : ∀ o, w'.cell? ⟨b, o, none⟩ = w.cell? ⟨b, o, none⟩ := fun o => World.cell?_of_block (w := w) (a := ⟨b, o, none⟩) hb
  exact ⟨(g 0).trans h0, (g 1).trans h1, (g 2).trans h2, (g 3).trans h3, (g 4).trans h4, fun o => (World.frozen?_of_block (w := w) (a := ⟨b, o, none⟩) hb).trans (hf o), Nat.lt_of_lt_of_le hl hs⟩
theorem FA.grown {w w' : World} {b qb pb : Nat} {pc : Int} {ended : Bool} (h : FA w b qb pb pc ended) {row : Option Nat} (g : w.grownBy w' row) (hne : some b ≠ row) : FA w' b qb pb pc ended := h.of_block (g.block b h.2.2.2.2.2.2 hne) g.size
theorem sc_same {w : World} {a : Addr} {u v : Value} (h : w.cell? a = some u) : (w.setCell a v).cell? a = some v := World.cell?_setCell_same (h := h) ..
theorem sc_off {w : World} {b p q : Nat} {u v : Value} (h : w.cell? ⟨b, p, none⟩ = some u) (hne : q ≠ p) : (w.setCell ⟨b, q, none⟩ v).cell? ⟨b, p, none⟩ = some u := by
  rw [World.cell?_setCell_other (h := by intro e'; injection e' with _ e''; exact hne e'')]; exact h
theorem FA.set {w : World} {b qb pb : Nat} {pc : Int} {ended : Bool} (h : FA w b qb pb pc ended) (pc2 : Int) (e2 : Bool) : FA ((w.setCell ⟨b, 3, none⟩ (.int .u64 pc2)).setCell ⟨b, 4, none⟩ (.bool e2)) b qb pb pc2 e2 := by
  obtain ⟨h0, h1, h2, h3, h4, hf, hl⟩ := h
  exact ⟨sc_off (sc_off h0 (by omega)) (by omega), sc_off (sc_off h1 (by omega)) (by omega), sc_off (sc_off h2 (by omega)) (by omega), sc_off (sc_same h3) (by omega), sc_same (sc_off h4 (by omega)), fun o => by simp only [World.frozen?_setCell]; exact hf o, by simp only [size_setCell]; exact hl⟩
/-- Nothing but three blocks has turned. -/
structure Only3 (W w : World) (b qb pb : Nat) : Prop where
  os : w.os = W.os
  tape : w.tape = W.tape
  output : w.output = W.output
  size : W.heap.size ≤ w.heap.size
  block : ∀ i, i < W.heap.size → i ≠ b → i ≠ qb → i ≠ pb → w.heap[i]? = W.heap[i]?
theorem Only3.step {W w w' : World} {b qb pb : Nat} (h : Only3 W w b qb pb) {r : Option Nat} (g : w.grownBy w' r) (hr : ∀ k, r = some k → k = b ∨ k = qb ∨ k = pb ∨ W.heap.size ≤ k) : Only3 W w' b qb pb :=
  ⟨g.os.trans h.os, g.tape.trans h.tape, g.output.trans h.output, Nat.le_trans h.size g.size, fun i hi h1 h2 h3 => (g.block i (Nat.lt_of_lt_of_le hi h.size) (fun e => by rcases hr i e.symm with e | e | e | e <;> omega)).trans (h.block i hi h1 h2 h3)⟩
theorem Only3.refl (W : World) (b qb pb : Nat) : Only3 W W b qb pb := ⟨rfl, rfl, rfl, Nat.le_refl _, fun _ _ _ _ _ => rfl⟩
/-- A fetch unit, its queue, its predictor; against W nothing else has turned. -/
structure FS (W w : World) (b qb pb : Nat) (pc : Int) (ended : Bool) (l : List S) (ep : Nat) (p : P) : Prop where
  fa : FA w b qb pb pc ended
  ql : QL w qb l 8 ep
  pa : PAt w pb p
  bq : b ≠ qb
  bp : b ≠ pb
  qp : qb ≠ pb
  bel : Only3 W w b qb pb
variable {W w w' : World} {b qb pb : Nat} {pc : Int} {ended : Bool} {l : List S} {ep : Nat} {p : P}
theorem FS.big (h : FS W w b qb pb pc ended l ep p) : W.heap.size ≤ w.heap.size := h.bel.size
theorem FS.base (h : FS W w b qb pb pc ended l ep p) : FS w w b qb pb pc ended l ep p := ⟨h.fa, h.ql, h.pa, h.bq, h.bp, h.qp, Only3.refl _ _ _ _⟩
theorem FS.below (h : FS W w b qb pb pc ended l ep p) (gb : W.heap.size ≤ b) (gq : W.heap.size ≤ qb) (gp : W.heap.size ≤ pb) : Below W.heap.size W w :=
  ⟨h.bel.os, h.bel.tape, h.bel.output, h.bel.size, fun k hk => h.bel.block k hk (by omega) (by omega) (by omega)⟩
theorem FS.keep (h : FS W w b qb pb pc ended l ep p) (g : w.grownBy w' none) : FS W w' b qb pb pc ended l ep p :=
  ⟨h.fa.grown g (by simp), h.ql.grown g (by simp), h.pa.grown g (by simp), h.bq, h.bp, h.qp, h.bel.step g (fun k e => by cases e)⟩
theorem FS.drewN (h : FS W w b qb pb pc ended l ep p) (n : Nat) : FS W (w.drewN n) b qb pb pc ended l ep p := h.keep (only_drewN (World.grownBy.refl _ _) n)
theorem FS.drew (h : FS W w b qb pb pc ended l ep p) : FS W w.drew b qb pb pc ended l ep p := h.keep (only_drew (World.grownBy.refl _ _))
theorem FS.alloc (h : FS W w b qb pb pc ended l ep p) (o : Obj) : FS W (w.alloc o) b qb pb pc ended l ep p := h.keep (only_alloc (World.grownBy.refl _ _) o)
theorem FS.queue {l2 : List S} {ep2 : Nat} (h : FS W w b qb pb pc ended l ep p) (g : w.grownBy w' (some qb)) (hq : QL w' qb l2 8 ep2) : FS W w' b qb pb pc ended l2 ep2 p :=
  ⟨h.fa.grown g (fun e => h.bq (by injection e)), hq, h.pa.grown g (fun e => h.qp (by injection e with e; exact e.symm)), h.bq, h.bp, h.qp, h.bel.step g (fun k e => by injection e with e; omega)⟩
theorem FS.pred {p2 : P} (h : FS W w b qb pb pc ended l ep p) (g : w.grownBy w' (some pb)) (hp : PAt w' pb p2) : FS W w' b qb pb pc ended l ep p2 :=
  ⟨h.fa.grown g (fun e => h.bp (by injection e)), h.ql.grown g (fun e => h.qp (by injection e)), hp, h.bq, h.bp, h.qp, h.bel.step g (fun k e => by injection e with e; omega)⟩
theorem FS.set (h : FS W w b qb pb pc ended l ep p) (pc2 : Int) (e2 : Bool) : FS W ((w.setCell ⟨b, 3, none⟩ (.int .u64 pc2)).setCell ⟨b, 4, none⟩ (.bool e2)) b qb pb pc2 e2 l ep p := by
  have g : w.grownBy ((w.setCell ⟨b, 3, none⟩ (.int .u64 pc2)).setCell ⟨b, 4, none⟩ (.bool e2)) (some b) := only_setCell (p := ⟨b, 4, .none⟩) (only_setCell (p := ⟨b, 3, .none⟩) (World.grownBy.refl _ _) (.inl rfl) _) (.inl rfl) _
  exact ⟨h.fa.set _ _, h.ql.grown g (fun e => h.bq (by injection e with e; exact e.symm)), h.pa.grown g (fun e => h.bp (by injection e with e; exact e.symm)), h.bq, h.bp, h.qp, h.bel.step g (fun k e => by injection e with e; omega)⟩
theorem FS.box (h : FS W w b qb pb pc ended l ep p) {c o : Nat} (hc1 : c ≠ b) (hc2 : c ≠ qb) (hc3 : c ≠ pb) (hc : W.heap.size ≤ c) (v : Value) : FS W (w.setCell ⟨c, o, none⟩ v) b qb pb pc ended l ep p := by
  have g : w.grownBy (w.setCell ⟨c, o, none⟩ v) (some c) := only_setCell (World.grownBy.refl _ _) (.inl rfl) _
  exact ⟨h.fa.grown g (fun e => hc1 (by injection e with e; exact e.symm)), h.ql.grown g (fun e => hc2 (by injection e with e; exact e.symm)), h.pa.grown g (fun e => hc3 (by injection e with e; exact e.symm)), h.bq, h.bp, h.qp, h.bel.step g (fun k e => by injection e with e; omega)⟩
theorem FA.new (w : World) (qb pb : Nat) (pc : Int) (ended : Bool) (T : TypeId) : FA (w.alloc (.cells #[.pointer (some ⟨pb, 0, none⟩), .pointer (some ⟨qb, 0, none⟩), guessF pb, .int .u64 pc, .bool ended] T)) w.heap.size qb pb pc ended := by
  refine ⟨?_, ?_, ?_, ?_, ?_, fun o => World.frozen?_alloc_new .., by simp⟩ <;> (rw [World.cell?_alloc_new]; rfl)
def NF (W : World) (pc seed : Int) (e : Ending) (w' : World) : Prop := ∃ b qb pb, e = .returned (.pointer (some ⟨b, 0, none⟩)) ∧ FS W w' b qb pb pc false [] 0 (P.new seed) ∧ W.heap.size ≤ b ∧ W.heap.size ≤ qb ∧ W.heap.size ≤ pb
set_option maxRecDepth 100000 in
theorem fnew (W : World) (seed pc : Int) (s0 : 0 ≤ seed) (s1 : seed < 18446744073709551616) : Calls Try.prog 37 #[.int .u64 seed, .int .u64 pc] W (NF W pc seed) := by
  have L := hide (lnew 8 W (by omega) (by omega))
  have N := hide (fun w => pnew_any seed w s0 s1)
  go_enter Try.func37, Try.ntmps37
  go_wp2_with fail
  refine L.out.mono ?_
  rintro e w1 ⟨rfl, hg, hz, hq⟩
  have B1 := hide (below_none (Below.refl W.heap.size W) hg (Nat.le_refl _))
  have Q1 := hide hq
  clear hg hq
  simp only []
  go_wp2_with fail
  refine (N.out _).mono ?_
  rintro e w2 ⟨rfl, hg, hz2, hp⟩
  have B2 := hide (below_none B1.out hg (Nat.le_of_lt hz))
  have Q2 := hide (Q1.out.grown hg (by simp))
  have P2 := hide hp
  have FF := hide (show FS W (w2.alloc (.cells #[.pointer (some ⟨w1.heap.size, 0, none⟩), .pointer (some ⟨W.heap.size, 0, none⟩), guessF w1.heap.size, .int .u64 pc, .bool false] 108)) w2.heap.size W.heap.size w1.heap.size pc false [] 0 (P.new seed) from
    ⟨FA.new w2 _ _ _ _ 108, Q2.out.alloc _, P2.out.alloc _, by omega, by omega, by omega, (by
      have bb := B2.out.alloc (show W.heap.size ≤ w2.heap.size by omega) (.cells #[.pointer (some ⟨w1.heap.size, 0, none⟩), .pointer (some ⟨W.heap.size, 0, none⟩), guessF w1.heap.size, .int .u64 pc, .bool false] 108)
      exact ⟨bb.os, bb.tape, bb.output, bb.size, fun i hi _ _ _ => bb.block i hi⟩)⟩)
  have hz0 : W.heap.size ≤ w1.heap.size := by omega
  have hz9 : W.heap.size ≤ w2.heap.size := by omega
  clear hg hp
  simp only []
  go_wp2_with fail
  go_ret
  exact ⟨_, _, _, rfl, FF.out, hz9, Nat.le_refl _, hz0⟩
/-- What a call leaves: an answer, and the unit so. -/
def FR (v : Value) (W : World) (b qb pb : Nat) (pc : Int) (ended : Bool) (l : List S) (ep : Nat) (p : P) (e : Ending) (w' : World) : Prop := e = .returned v ∧ FS W w' b qb pb pc ended l ep p
theorem FS.len (h : FS W w b qb pb pc ended l ep p) : l.length ≤ 8 := h.ql.len.1
set_option maxRecDepth 100000 in
theorem fwant_no (h : FS W w b qb pb pc ended l ep p) (hn : ended = true ∨ ended = false ∧ l.length = 8) : Calls Try.prog 39 #[.pointer (some ⟨b, 0, none⟩)] w (FR (.tuple #[.int .u64 0, .int .i64 0, .bool false]) W b qb pb pc ended l ep p) := by
  have H := hide h
  have R := hide (lroom h.ql)
  obtain ⟨f0, f1, f2, f3, f4, ff, fl⟩ := h.fa
  clear h
  rcases hn with rfl | ⟨rfl, hl⟩
  · go_enter Try.func39, Try.ntmps39
    go_wp2_with fail
    refine bodyPost_ret (v := .tuple #[.int .u64 0, .int .i64 0, .bool false]) (by simp [results, Try.results39, go_sem]) rfl ?_
    exact ⟨rfl, H.out⟩
  · rw [hl] at R
    have z8 : ((8 : Nat) : Int) - ((8 : Nat) : Int) = 0 := by omega
    rw [z8] at R
    clear z8
    go_enter Try.func39, Try.ntmps39
    go_wp2_with fail
    refine R.out.mono ?_
    rintro e w1 ⟨rfl, k, rfl⟩
    have H1 := hide (H.out.drewN k)
    generalize w.drewN k = wk at *
    simp only []
    go_wp2_with fail
    refine bodyPost_ret (v := .tuple #[.int .u64 0, .int .i64 0, .bool false]) (by simp [results, Try.results39, go_sem]) rfl ?_
    exact ⟨rfl, H1.out⟩
set_option maxRecDepth 100000 in
theorem fwant_yes (h : FS W w b qb pb pc false l ep p) (hn : l.length < 8) : Calls Try.prog 39 #[.pointer (some ⟨b, 0, none⟩)] w (FR (.tuple #[.int .u64 pc, .int .i64 ep, .bool true]) W b qb pb pc false l ep p) := by
  have H := hide h
  have R := hide (lroom h.ql)
  obtain ⟨f0, f1, f2, f3, f4, ff, fl⟩ := h.fa
  clear h
  have t1 : ((((8 : Nat) : Int) - (l.length : Int)) == 0) = false := beq_eq_false_iff_ne.2 (by omega)
  have t2 : ¬ (((8 : Nat) : Int) - (l.length : Int) = 0) := by omega
  generalize ((8 : Nat) : Int) - (l.length : Int) = room at *
  go_enter Try.func39, Try.ntmps39
  go_wp2_with fail
  refine R.out.mono ?_
  rintro e w1 ⟨rfl, k, rfl⟩
  have H1 := hide (H.out.drewN k)
  clear f0 f1 f2 f3 f4 ff fl H R
  generalize w.drewN k = wk at *
  obtain ⟨f0, f1, f2, f3, f4, ff, fl⟩ := H1.out.fa
  have E := hide (fun n : Nat => show Calls Try.prog 24 #[.pointer (some ⟨qb, 0, none⟩)] (wk.drewN n) fun e w' => e = .returned (.int .i64 ep) ∧ w' = wk.drewN n from (lepoch (H1.out.drewN n).ql).mono fun _ _ h => ⟨h.1, h.2.symm⟩)
  simp only []
  go_wp2_with fail
  go_quiet ((go_at_call 24; exact Calls.quiet_of_same (E.out _)))
  have H2 := hide (H1.out.drewN nq)
  generalize wk.drewN nq = w3 at *
  go_wp2_with fail
  refine bodyPost_ret (v := .tuple #[.int .u64 pc, .int .i64 ep, .bool true]) (by simp [results, Try.results39, go_sem]) rfl ?_
  exact ⟨rfl, H2.out⟩
set_option maxHeartbeats 3200000
set_option maxRecDepth 100000 in
theorem fgot_ok (h : FS W w b qb pb pc false l ep p) (hn : l.length < 8) (bits : Int) (p0 : 0 ≤ pc) (p1 : pc < 18446744073709551616) :
    Calls Try.prog 40 #[.pointer (some ⟨b, 0, none⟩), .int .u64 pc, .int .i64 ep, .int .u32 bits, .int .i64 0] w (FR (.int .i64 0) W b qb pb (p.guess pc).2 false (l ++ [⟨pc, bits, 0, (p.guess pc).2, ep⟩]) ep p) := by
  have WT := hide (fwant_yes h hn)
  have GU := hide (fun (w2 : World) (hp : PAt w2 pb p) => guess_any pb pc w2 p hp p0 p1)
  have PU := hide (fun (w2 : World) (nx : Int) (hq : QL w2 qb l 8 ep) => lpush_ok ⟨pc, bits, 0, nx, ep⟩ hq hn rfl)
  clear h hn
  have q' : ∀ n : Int, (n == n) = true := fun n => by simp
  go_enter Try.func40, Try.ntmps40
  go_wp2_with fail
  refine WT.out.mono ?_
  rintro e w1 ⟨rfl, hf⟩
  have H1 := hide hf
  clear hf
  obtain ⟨f0, f1, f2, f3, f4, ff, fl⟩ := H1.out.fa
  simp only []
  go_wp2_with fail
  have BX := hide (fun (w2 : World) (hg : (w1.alloc (.cells #[.int .u64 pc, .int .u32 bits, .int .i64 0, .int .u64 (IntKind.u64.wrap (pc + 4)), .int .i64 ep] 34)).grownBy w2 Option.none) => box5 hg (by simp))
  have HA := hide (H1.out.alloc (.cells #[.int .u64 pc, .int .u32 bits, .int .i64 0, .int .u64 (IntKind.u64.wrap (pc + 4)), .int .i64 ep] 34))
  refine (GU.out _ HA.out.pa).mono ?_
  rintro e w2 ⟨rfl, hg, hp⟩
  have H2 := hide (HA.out.keep hg)
  have XB := hide (BX.out _ hg)
  have cb1 : b < w1.heap.size := fl
  have cb2 : qb < w1.heap.size := H1.out.ql.lt
  have cb3 : pb < w1.heap.size := H1.out.pa.lt
  have hne1 : ¬ (w1.heap.size = b) := by omega
  have hne2 : ¬ (b = w1.heap.size) := by omega
  have hgb : W.heap.size ≤ w1.heap.size := H1.out.big
  clear hg hp f0 f1 f2 f3 f4 ff fl BX
  generalize hnx : (p.guess pc).2 = nx at *
  generalize (p.guess pc).1 = tk at *
  clear hnx
  have H3 := hide ((H2.out.box (o := 3) (by omega) (by omega) (by omega) hgb (.int .u64 nx)).set nx false)
  clear cb1 cb2 cb3 hgb
  have PV := hide (PU.out _ nx H3.out.drew.ql)
  have HK := hide (fun (w9 : World) (hg : (((w2.setCell ⟨w1.heap.size, 3, .none⟩ (.int .u64 nx)).setCell ⟨b, 3, .none⟩ (.int .u64 nx)).setCell ⟨b, 4, .none⟩ (.bool false)).drew.grownBy w9 (some qb)) (hq : QL w9 qb (l ++ [⟨pc, bits, 0, nx, ep⟩]) 8 ep) => H3.out.drew.queue hg hq)
  obtain ⟨f0, f1, f2, f3, f4, ff, fl⟩ := H2.out.fa
  obtain ⟨x0, x1, x2, x3, x4, xf, xl⟩ := XB.out
  have hfd : ∀ w : World, (Instr.field 46 (.agg #[.bool tk, .int .u64 nx]) 1).run Try.prog w = .ok (.int .u64 nx) w := fun _ => by kernel_rfl
  simp only []
  go_wp2_with fail
  go_region_with (go_at_call 20; refine (PV.out).mono ?_; rintro e w9 ⟨rfl, hg, hq⟩; have H9 := hide (HK.out _ hg hq); clear hg hq; simp only [])
  all_goals
    go_wp2_with fail
    go_ret
    exact ⟨rfl, H9.out⟩
set_option maxRecDepth 100000 in
theorem fgot_fault (h : FS W w b qb pb pc false l ep p) (hn : l.length < 8) (bits fault : Int) (hf : fault ≠ 0) :
    Calls Try.prog 40 #[.pointer (some ⟨b, 0, none⟩), .int .u64 pc, .int .i64 ep, .int .u32 bits, .int .i64 fault] w (FR (.int .i64 0) W b qb pb (np pc) true (l ++ [⟨pc, 0, fault, np pc, ep⟩]) ep p) := by
  have WT := hide (fwant_yes h hn)
  have PU := hide (fun (w2 : World) (nx : Int) (hq : QL w2 qb l 8 ep) => lpush_ok ⟨pc, 0, fault, nx, ep⟩ hq hn rfl)
  clear h hn
  have q' : ∀ n : Int, (n == n) = true := fun n => by simp
  have t1 : (fault == 0) = false := beq_eq_false_iff_ne.2 hf
  have t2 : (fault != 0) = true := by simpa using hf
  unfold np
  generalize hnx : IntKind.u64.wrap (pc + 4) = nx at *
  go_enter Try.func40, Try.ntmps40
  go_wp2_with fail
  refine WT.out.mono ?_
  rintro e w1 ⟨rfl, hf1⟩
  have H1 := hide hf1
  clear hf1
  have H3 := hide ((H1.out.set nx true).alloc (.cells #[.int .u64 pc, .int .u32 0, .int .i64 fault, .int .u64 nx, .int .i64 ep] 34))
  have PV := hide (PU.out _ nx H3.out.drew.ql)
  have HK := hide (fun (w9 : World) (hg : (((w1.setCell ⟨b, 3, .none⟩ (.int .u64 nx)).setCell ⟨b, 4, .none⟩ (.bool true)).alloc (.cells #[.int .u64 pc, .int .u32 0, .int .i64 fault, .int .u64 nx, .int .i64 ep] 34)).drew.grownBy w9 (some qb)) (hq : QL w9 qb (l ++ [⟨pc, 0, fault, nx, ep⟩]) 8 ep) => H3.out.drew.queue hg hq)
  obtain ⟨f0, f1, f2, f3, f4, ff, fl⟩ := H1.out.fa
  have cb1 : b < w1.heap.size := fl
  have hne1 : ¬ (w1.heap.size = b) := by omega
  have hne2 : ¬ (b = w1.heap.size) := by omega
  simp only []
  go_wp2_with fail
  go_region_with (go_at_call 20; refine (PV.out).mono ?_; rintro e w9 ⟨rfl, hg, hq⟩; have H9 := hide (HK.out _ hg hq); clear hg hq; simp only [])
  all_goals
    go_wp2_with fail
    go_ret
    exact ⟨rfl, H9.out⟩
/-- Not wanted, or another one is. -/
theorem fgot_no (h : FS W w b qb pb pc ended l ep p) (a ae bits fault : Int) (hn : (ended = true ∨ ended = false ∧ l.length = 8) ∨ (ended = false ∧ l.length < 8 ∧ (pc ≠ a ∨ pc = a ∧ (ep : Int) ≠ ae))) :
    Calls Try.prog 40 #[.pointer (some ⟨b, 0, none⟩), .int .u64 a, .int .i64 ae, .int .u32 bits, .int .i64 fault] w (FR (.int .i64 7) W b qb pb pc ended l ep p) := by
  rcases hn with hn | ⟨rfl, hn, hm⟩
  · have WT := hide (fwant_no h hn)
    clear h hn
    go_enter Try.func40, Try.ntmps40
    go_wp2_with fail
    refine WT.out.mono ?_
    rintro e w1 ⟨rfl, hf1⟩
    have H1 := hide hf1
    clear hf1
    simp only []
    go_wp2_with fail
    go_ret
    exact ⟨rfl, H1.out⟩
  · have WT := hide (fwant_yes h hn)
    clear h hn
    have q' : ∀ n : Int, (n != n) = false := fun n => by simp
    rcases hm with hm | ⟨rfl, hm⟩
    · have t1 : (pc != a) = true := by simpa using hm
      go_enter Try.func40, Try.ntmps40
      go_wp2_with fail
      refine WT.out.mono ?_
      rintro e w1 ⟨rfl, hf1⟩
      have H1 := hide hf1
      clear hf1
      simp only []
      go_wp2_with fail
      go_ret
      exact ⟨rfl, H1.out⟩
    · have t1 : ((ep : Int) != ae) = true := by simpa using hm
      go_enter Try.func40, Try.ntmps40
      go_wp2_with fail
      refine WT.out.mono ?_
      rintro e w1 ⟨rfl, hf1⟩
      have H1 := hide hf1
      clear hf1
      simp only []
      go_wp2_with fail
      go_ret
      exact ⟨rfl, H1.out⟩
set_option maxRecDepth 100000 in
theorem awake38 (W : World) : Calls Try.prog 38 #[] W fun e w' => e = .returned (.bool true) ∧ Below W.heap.size W w' := by
  have N := hide (fnew W 0 4096 (by omega) (by omega))
  go_enter Try.func38, Try.ntmps38
  go_wp2_with fail
  refine N.out.mono ?_
  rintro e w1 ⟨b, qb, pb, rfl, hf, gb, gq, gp⟩
  have WT := hide (fwant_yes hf (by simp))
  have GT := hide (fun (w2 : World) (h : FS W w2 b qb pb 4096 false [] 0 (P.new 0)) => fgot_ok h (by simp) 19 (by omega) (by omega))
  clear hf
  simp only []
  go_wp2_with fail
  refine WT.out.mono ?_
  rintro e w2 ⟨rfl, hf⟩
  have G2 := hide (GT.out _ hf)
  clear hf
  simp only []
  go_wp2_with fail
  refine G2.out.mono ?_
  rintro e w3 ⟨rfl, hf⟩
  have B3 := hide (hf.below gb gq gp)
  clear hf
  simp only []
  go_wp2_with fail
  go_ret
  exact ⟨rfl, B3.out⟩
end Go.Proofs.Ytkjgklpdoomjcaa.Wide

/- The law's step, beside the front: taking, turning, learning: by contracts. -/
import Derived.Test.YtkjgklpdoomjcaaFrtU
import Derived.Deep.RegionHeld3
import Derived.Deep.DrawnRows
namespace Go.Proofs.Ytkjgklpdoomjcaa.Wide
open Go.RowKit
set_option linter.unusedVariables false
set_option linter.unusedSimpArgs false

/-- Cell i of a call of the script, its place and epoch given. -/
def oc (kind pc ep bits fault : Int) (j : J) : Nat → Value
  | 0 => .int .i64 kind
  | 1 => .int .u64 pc
  | 2 => .int .i64 ep
  | 3 => .int .u32 bits
  | 4 => .int .i64 fault
  | 5 => .int .u64 j.pc
  | 6 => .bool j.call
  | 7 => .bool j.ret
  | 8 => .bool j.cond
  | 9 => .bool j.taken
  | _ => .int .u64 j.target
abbrev ov (kind pc ep bits fault : Int) (j : J) : Array Value := #[.int .i64 kind, .int .u64 pc, .int .i64 ep, .int .u32 bits, .int .i64 fault, .int .u64 j.pc, .bool j.call, .bool j.ret, .bool j.cond, .bool j.taken, .int .u64 j.target]
theorem oc_box (kind pc ep bits fault : Int) (j : J) (w : World) (T : TypeId) : CellsAt (w.alloc (.cells (ov kind pc ep bits fault j) T)) w.heap.size 11 (oc kind pc ep bits fault j) :=
  CellsAt.new w _ T 11 _ (by omega) fun i hi => by
    rcases (by omega : i = 0 ∨ i = 1 ∨ i = 2 ∨ i = 3 ∨ i = 4 ∨ i = 5 ∨ i = 6 ∨ i = 7 ∨ i = 8 ∨ i = 9 ∨ i = 10) with rfl | rfl | rfl | rfl | rfl | rfl | rfl | rfl | rfl | rfl | rfl <;> rfl
/-- What a step leaves. -/
def SF (W : World) (b qb pb sb rb : Nat) (ep : Nat) (e : Ending) (w' : World) : Prop := e = .returned (.bool true) ∧ ∃ (pc' : Int) (fl' : Bool) (L' : List S) (ep' : Nat) (p' : P) (a' : Option Addr) (cap' : Nat) (c' : Option Addr) (k' : Nat), ep' ≤ ep + 1 ∧ FT W b qb pb sb rb pc' fl' L' ep' p' a' cap' c' k' w'
section
variable {W w w' : World} {b qb pb sb rb : Nat} {pc : Int} {fl : Bool} {l L : List S} {s : S} {ep : Nat} {p : P} {a : Option Addr} {cap : Nat} {c : Option Addr} {k : Nat}
set_option maxRecDepth 100000 in
set_option maxHeartbeats 6400000 in
theorem step_take0 (x e bits fault : Int) (j : J) (h : FT W b qb pb sb rb pc fl ([] : List S) ep p a cap c k w) :
    Calls Try.prog 46 #[.pointer (some ⟨sb, 0, none⟩), .pointer (some ⟨b, 0, none⟩), .agg (ov 2 x e bits fault j)] w (SF W b qb pb sb rb ep) := by
  have H0 := hide (h.alloc (.cells (ov 2 x e bits fault j) 90))
  clear h
  go_enter Try.func46, Try.ntmps46
  go_wp2_with fail
  refine (ftake_no H0.out.fs).mono ?_
  rintro e w1 ⟨rfl, hf⟩
  have H1 := hide ((H0.out.front hf).alloc (.cells #[.int .u64 0, .int .u32 0, .int .i64 0, .int .u64 0, .int .i64 0] 34))
  have bx := S.five (S.box ⟨0, 0, 0, 0, 0⟩ w1)
  clear hf H0
  simp only []
  go_wp2_with fail
  generalize w1.alloc (.cells #[.int .u64 0, .int .u32 0, .int .i64 0, .int .u64 0, .int .i64 0] 34) = w2 at *
  obtain ⟨b0, b1, b2, b3, b4⟩ := bx
  have c3 := H1.out.rt.c3
  go_quiet (fail)
  have H2 := hide (H1.out.drewN nq)
  generalize w2.drewN nq = w3 at *
  clear b0 b1 b2 b3 b4 c3
  go_wp2_with fail
  go_ret
  exact ⟨rfl, pc, fl, [], ep, p, a, cap, c, k, by omega, H2.out⟩
set_option maxRecDepth 100000 in
set_option maxHeartbeats 6400000 in
theorem step_take1 (x e bits fault : Int) (j : J) (h : FT W b qb pb sb rb pc fl (s :: l) ep p a cap c k w) :
    Calls Try.prog 46 #[.pointer (some ⟨sb, 0, none⟩), .pointer (some ⟨b, 0, none⟩), .agg (ov 2 x e bits fault j)] w (SF W b qb pb sb rb ep) := by
  obtain ⟨N, hN⟩ : ∃ N, (s :: l).length = N := ⟨_, rfl⟩
  have N0 : 0 < N := by rw [← hN]; simp
  have N8 : N ≤ 8 := by rw [← hN]; exact h.len
  have HN := hide hN
  have hcap := SL.le h.rt.sl
  have hmax := SL.max h.rt.sl
  unfold maxLen at hmax
  rw [hN] at hcap
  obtain ⟨g, off, hga, -, -, -⟩ := h.rt.sl.first
  subst hga
  have PP := hide (And.intro h.pc64 h.pw)
  have H0 := hide (h.alloc (.cells (ov 2 x e bits fault j) 90))
  clear h hN
  go_enter Try.func46, Try.ntmps46
  go_wp2_with fail
  refine (ftake_yes H0.out.fs).mono ?_
  rintro e w1 ⟨rfl, hf⟩
  have H1 := hide ((H0.out.fg.front hf).keep (only_alloc (World.grownBy.refl _ _) (.cells #[.int .u64 s.pc, .int .u32 s.bits, .int .i64 s.fault, .int .u64 s.next, .int .i64 s.epoch] 34)))
  have bx := S.five (S.box s w1)
  clear hf H0
  simp only []
  go_wp2_with fail
  generalize w1.alloc (.cells #[.int .u64 s.pc, .int .u32 s.bits, .int .i64 s.fault, .int .u64 s.next, .int .i64 s.epoch] 34) = w2 at *
  obtain ⟨b0, b1, b2, b3, b4⟩ := bx
  have c3 := H1.out.rt.c3
  rw [HN.out] at c3
  have hd : decide ((0 : Int) < (N : Int)) = true := by simpa using N0
  obtain ⟨g', off', hge, -, -, s0, s1, s2, s3, s4⟩ := H1.out.rt.sl.first
  injection hge with hge
  injection hge with hg1 hg2
  subst hg1 hg2
  go_quiet (fail)
  have H2 := hide (H1.out.keep (only_drewN (World.grownBy.refl _ _) nq))
  generalize w2.drewN nq = w3 at *
  clear b0 b1 b2 b3 b4 c3 s0 s1 s2 s3 s4 hd H1
  have c3 := H2.out.rt.c3
  rw [HN.out] at c3
  have hf := H2.out.rt.sc.free
  have hlt := H2.out.rt.sc.lt
  have CU := hide (show Slots w3 0 (cutAt 5 (some ⟨g, off, none⟩) cap 1) (cap - 1) l from by
    have h := SL.cut (k := 1) H2.out.rt.sl (by simp)
    simpa [Slots, S.l] using h)
  have hl1 : l.length = N - 1 := by have := HN.out; simp at this; omega
  have HL := hide hl1
  clear hl1
  by_cases hc1 : cap = 1
  · have hM2 : N = 1 := by omega
    subst hc1 hM2
    rw [show cutAt 5 (some ⟨g, off, none⟩) 1 1 = some ⟨g, off, none⟩ from if_pos rfl] at CU
    have H3 := hide (H2.out.setL HL.out CU.out (fun ad' e => ⟨ad', e, rfl⟩))
    go_wp2_with fail
    go_ret
    exact ⟨rfl, pc, fl, l, ep, p, _, _, c, k, by omega, H3.out.ft PP.out.1 PP.out.2⟩
  · have hc2 : 2 ≤ cap := by omega
    rw [show cutAt 5 (some ⟨g, off, none⟩) cap 1 = some ⟨g, off + 5, none⟩ from by unfold cutAt; rw [if_neg hc1, Option.map_some, addr_add]] at CU
    have nc1 : ¬ cap = 1 := hc1
    have hv1 : (N : Int) - 1 = ((N - 1 : Nat) : Int) := by omega
    have H3 := hide (H2.out.setL HL.out CU.out (fun ad' e => ⟨⟨g, off, none⟩, rfl, by injection e with e; rw [← e]⟩))
    clear hc1 hv1
    go_wp2_with fail
    go_ret
    exact ⟨rfl, pc, fl, l, ep, p, _, _, c, k, by omega, H3.out.ft PP.out.1 PP.out.2⟩
set_option maxRecDepth 100000 in
set_option maxHeartbeats 6400000 in
theorem step_turn (x e bits fault : Int) (j : J) (x0 : 0 ≤ x) (x1 : x < 18446744073709551616) (he : ep ≤ 4294967295) (h : FT W b qb pb sb rb pc fl L ep p a cap c k w) :
    Calls Try.prog 46 #[.pointer (some ⟨sb, 0, none⟩), .pointer (some ⟨b, 0, none⟩), .agg (ov 3 x e bits fault j)] w (SF W b qb pb sb rb ep) := by
  have PP := hide h.pw
  have H0 := hide (h.alloc (.cells (ov 3 x e bits fault j) 90))
  have BX := hide (oc_box 3 x e bits fault j w 90)
  have hsb := h.rt.sc.lt
  have hrb := h.rt.ra.lt
  have hb1 := h.fs.fa.2.2.2.2.2.2
  have hb2 := h.fs.ql.lt
  have hb3 := h.fs.pa.lt
  clear h
  go_enter Try.func46, Try.ntmps46
  go_wp2_with fail
  generalize hw0 : w.alloc (.cells (ov 3 x e bits fault j) 90) = w0 at *
  clear hw0
  refine (fturn H0.out.fs x (by omega)).mono ?_
  rintro e w1 ⟨rfl, hf⟩
  have H1 := hide (H0.out.fg.front hf)
  have BX1 := hide (BX.out.of_block (hf.bel.block w.heap.size BX.out.lt (by omega) (by omega) (by omega)))
  clear hf H0 BX
  have b1 : w1.cell? ⟨w.heap.size, 1, none⟩ = some (.int .u64 x) := BX1.out.cell 1 (by omega)
  have c0 := H1.out.rt.c0
  have c1 := H1.out.rt.c1
  have c2 := H1.out.rt.c2
  have c3 := H1.out.rt.c3
  have c4 := H1.out.rt.c4
  have hf := H1.out.rt.sc.free
  have r161 := H1.out.rt.ra.c161
  have rf := H1.out.rt.ra.cells.free
  have hlt := H1.out.rt.sc.lt
  have hltr := H1.out.rt.ra.lt
  have nsr : ¬ sb = rb := H1.out.rt.sr
  have nrs : ¬ rb = sb := fun e => nsr e.symm
  have H2 := hide (((((H1.out.setPc x).setFl false).setL (L' := []) (n' := 0) (a' := none) (cap' := 0) rfl SL.nil (fun _ e => by cases e)).setEp (ep + 1)).clearS)
  simp only []
  go_wp2_with fail
  go_ret
  exact ⟨rfl, x, false, [], ep + 1, _, none, 0, none, 0, Nat.le_refl _, H2.out.ft ⟨x0, x1⟩ PP.out.squash⟩
set_option maxRecDepth 100000 in
set_option maxHeartbeats 6400000 in
theorem step_learn (x e bits fault : Int) (j : J) (j0 : 0 ≤ j.pc) (j1 : j.pc < 18446744073709551616) (jt : In64 j.target) (h : FT W b qb pb sb rb pc fl L ep p a cap c k w) :
    Calls Try.prog 46 #[.pointer (some ⟨sb, 0, none⟩), .pointer (some ⟨b, 0, none⟩), .agg (ov 4 x e bits fault j)] w (SF W b qb pb sb rb ep) := by
  have PP := hide (And.intro h.pc64 (h.pw.learn j jt))
  have H0 := hide (h.alloc (.cells (ov 4 x e bits fault j) 90))
  have BX := hide (oc_box 4 x e bits fault j w 90)
  have hb1 := h.fs.fa.2.2.2.2.2.2
  have hb2 := h.fs.ql.lt
  have hb3 := h.fs.pa.lt
  clear h
  go_enter Try.func46, Try.ntmps46
  go_wp2_with fail
  generalize hw0 : w.alloc (.cells (ov 4 x e bits fault j) 90) = w0 at *
  clear hw0
  refine (flearn H0.out.fs j j0 j1).mono ?_
  rintro e w1 ⟨rfl, hf⟩
  have H1 := hide (H0.out.fg.front hf)
  have BX1 := hide (BX.out.of_block (hf.bel.block w.heap.size BX.out.lt (by omega) (by omega) (by omega)))
  clear hf H0 BX
  have KS := hide (fun (w' : World) (g : w1.grownBy w' none) => show w'.cell? ⟨sb, 4, none⟩ = some (.pointer (some ⟨rb, 0, none⟩)) ∧ w'.cell? ⟨w.heap.size, 5, none⟩ = some (.int .u64 j.pc) ∧ w'.cell? ⟨w.heap.size, 6, none⟩ = some (.bool j.call) ∧ w'.cell? ⟨w.heap.size, 7, none⟩ = some (.bool j.ret) ∧ w'.cell? ⟨w.heap.size, 8, none⟩ = some (.bool j.cond) ∧ w'.cell? ⟨w.heap.size, 9, none⟩ = some (.bool j.taken) ∧ w'.cell? ⟨w.heap.size, 10, none⟩ = some (.int .u64 j.target) from
    ⟨((H1.out.keep g).rt).c4, (BX1.out.grown g (by simp)).cell 5 (by omega), (BX1.out.grown g (by simp)).cell 6 (by omega), (BX1.out.grown g (by simp)).cell 7 (by omega), (BX1.out.grown g (by simp)).cell 8 (by omega), (BX1.out.grown g (by simp)).cell 9 (by omega), (BX1.out.grown g (by simp)).cell 10 (by omega)⟩)
  obtain ⟨c4, b5, b6, b7, b8, b9, b10⟩ := KS.out _ (World.grownBy.refl _ _)
  have RL := hide (RLearn_any rb j w1.drew c k p (H1.out.rt.ra.keep (only_drew (World.grownBy.refl _ _))) j0 j1)
  have H1d := hide (H1.out.keep (only_drew (World.grownBy.refl _ _)))
  simp only []
  go_wp2_with fail
  go_region_with (go_at_call 36; refine (RL.out).mono ?_; rintro e w2 ⟨rfl, hg, c', k', hq, af⟩; have H2 := hide (H1d.out.learnt hg hq af); clear hg hq af; simp only [])
  all_goals go_wp2_with fail
  all_goals go_ret
  all_goals exact ⟨rfl, pc, fl, L, ep, _, a, cap, _, _, by omega, H2.out.ft PP.out.1 PP.out.2⟩
end
end Go.Proofs.Ytkjgklpdoomjcaa.Wide

/- AluBranches: the walk. -/
import Derived.Test.YtnncifcfgjphlaaTarget
import Derived.Test.YtnncifcfgjphlaaBranchR
import Derived.Deep.RegionHeld3
import Derived.Deep.DeepMust
namespace Go.Proofs.Ytnncifcfgjphlaa
open Go.RowKit
set_option linter.unusedVariables false
set_option maxHeartbeats 3200000

set_option maxRecDepth 100000 in
theorem branches_core (f a b pc t : Int) (r : Bool) (op fn rd rs1 rs2 im sz cs : Int) (sg wd ui : Bool)
    (hB : ∀ w : World, Calls Try.prog 14 #[.int .i64 f, .int .u64 a, .int .u64 b] w fun e w' => e = .returned (.bool r) ∧ w' = w)
    (hR : ∀ w : World, Calls Try.prog 15 #[.int .i64 f, .int .u64 a, .int .u64 b] w fun e w' => e = .returned (.bool r) ∧ w' = w)
    (hT : ∀ w : World, Calls Try.prog 16 #[.agg #[.int .i64 op, .int .i64 fn, .int .i64 rd, .int .i64 rs1, .int .i64 rs2, .int .u64 im, .int .i64 sz, .bool sg, .bool wd, .bool ui, .int .i64 cs], .int .u64 pc, .int .u64 a] w fun e w' => e = .returned (.int .u64 t) ∧ Below w.heap.size w w')
    (hV : ∀ w : World, Calls Try.prog 17 #[.agg #[.int .i64 op, .int .i64 fn, .int .i64 rd, .int .i64 rs1, .int .i64 rs2, .int .u64 im, .int .i64 sz, .bool sg, .bool wd, .bool ui, .int .i64 cs], .int .u64 pc, .int .u64 a] w fun e w' => e = .returned (.int .u64 t) ∧ Below w.heap.size w w') (W : World) :
    Calls Try.prog 9 #[.int .i64 f, .int .u64 a, .int .u64 b, .agg #[.int .i64 op, .int .i64 fn, .int .i64 rd, .int .i64 rs1, .int .i64 rs2, .int .u64 im, .int .i64 sz, .bool sg, .bool wd, .bool ui, .int .i64 cs], .int .u64 pc] W fun e W' => e = .returned (.bool true) ∧ Below W.heap.size W W' := by
  have q1 : (r == r) = true := by cases r <;> rfl
  have q2 : (t == t) = true := by simp
  have TZ : Hid (∀ w w' : World, (w.cell? ⟨W.heap.size, 0, none⟩ = some (.int .i64 op) ∧ w.cell? ⟨W.heap.size, 1, none⟩ = some (.int .i64 fn) ∧ w.cell? ⟨W.heap.size, 2, none⟩ = some (.int .i64 rd) ∧ w.cell? ⟨W.heap.size, 3, none⟩ = some (.int .i64 rs1) ∧ w.cell? ⟨W.heap.size, 4, none⟩ = some (.int .i64 rs2) ∧ w.cell? ⟨W.heap.size, 5, none⟩ = some (.int .u64 im) ∧ w.cell? ⟨W.heap.size, 6, none⟩ = some (.int .i64 sz) ∧ w.cell? ⟨W.heap.size, 7, none⟩ = some (.bool sg) ∧ w.cell? ⟨W.heap.size, 8, none⟩ = some (.bool wd) ∧ w.cell? ⟨W.heap.size, 9, none⟩ = some (.bool ui) ∧ w.cell? ⟨W.heap.size, 10, none⟩ = some (.int .i64 cs) ∧ Below W.heap.size W w ∧ W.heap.size < w.heap.size) → Below w.heap.size w w' → (w'.cell? ⟨W.heap.size, 0, none⟩ = some (.int .i64 op) ∧ w'.cell? ⟨W.heap.size, 1, none⟩ = some (.int .i64 fn) ∧ w'.cell? ⟨W.heap.size, 2, none⟩ = some (.int .i64 rd) ∧ w'.cell? ⟨W.heap.size, 3, none⟩ = some (.int .i64 rs1) ∧ w'.cell? ⟨W.heap.size, 4, none⟩ = some (.int .i64 rs2) ∧ w'.cell? ⟨W.heap.size, 5, none⟩ = some (.int .u64 im) ∧ w'.cell? ⟨W.heap.size, 6, none⟩ = some (.int .i64 sz) ∧ w'.cell? ⟨W.heap.size, 7, none⟩ = some (.bool sg) ∧ w'.cell? ⟨W.heap.size, 8, none⟩ = some (.bool wd) ∧ w'.cell? ⟨W.heap.size, 9, none⟩ = some (.bool ui) ∧ w'.cell? ⟨W.heap.size, 10, none⟩ = some (.int .i64 cs) ∧ Below W.heap.size W w' ∧ W.heap.size < w'.heap.size)) := hide fun w w' ⟨c0, c1, c2, c3, c4, c5, c6, c7, c8, c9, c10, bw, lw⟩ k =>
    ⟨(k.cell lw).trans c0, (k.cell lw).trans c1, (k.cell lw).trans c2, (k.cell lw).trans c3, (k.cell lw).trans c4, (k.cell lw).trans c5, (k.cell lw).trans c6, (k.cell lw).trans c7, (k.cell lw).trans c8, (k.cell lw).trans c9, (k.cell lw).trans c10, bw.trans (k.mono (Nat.le_of_lt lw)), Nat.lt_of_lt_of_le lw k.size⟩
  have S0 : Hid ((fun w' : World => w'.cell? ⟨W.heap.size, 0, none⟩ = some (.int .i64 op) ∧ w'.cell? ⟨W.heap.size, 1, none⟩ = some (.int .i64 fn) ∧ w'.cell? ⟨W.heap.size, 2, none⟩ = some (.int .i64 rd) ∧ w'.cell? ⟨W.heap.size, 3, none⟩ = some (.int .i64 rs1) ∧ w'.cell? ⟨W.heap.size, 4, none⟩ = some (.int .i64 rs2) ∧ w'.cell? ⟨W.heap.size, 5, none⟩ = some (.int .u64 im) ∧ w'.cell? ⟨W.heap.size, 6, none⟩ = some (.int .i64 sz) ∧ w'.cell? ⟨W.heap.size, 7, none⟩ = some (.bool sg) ∧ w'.cell? ⟨W.heap.size, 8, none⟩ = some (.bool wd) ∧ w'.cell? ⟨W.heap.size, 9, none⟩ = some (.bool ui) ∧ w'.cell? ⟨W.heap.size, 10, none⟩ = some (.int .i64 cs) ∧ Below W.heap.size W w' ∧ W.heap.size < w'.heap.size) (W.alloc (.cells #[.int .i64 op, .int .i64 fn, .int .i64 rd, .int .i64 rs1, .int .i64 rs2, .int .u64 im, .int .i64 sz, .bool sg, .bool wd, .bool ui, .int .i64 cs] 34)).drew) := hide ⟨by show (W.alloc _).cell? _ = _; rw [World.cell?_alloc_new]; rfl, by show (W.alloc _).cell? _ = _; rw [World.cell?_alloc_new]; rfl, by show (W.alloc _).cell? _ = _; rw [World.cell?_alloc_new]; rfl, by show (W.alloc _).cell? _ = _; rw [World.cell?_alloc_new]; rfl, by show (W.alloc _).cell? _ = _; rw [World.cell?_alloc_new]; rfl, by show (W.alloc _).cell? _ = _; rw [World.cell?_alloc_new]; rfl, by show (W.alloc _).cell? _ = _; rw [World.cell?_alloc_new]; rfl, by show (W.alloc _).cell? _ = _; rw [World.cell?_alloc_new]; rfl, by show (W.alloc _).cell? _ = _; rw [World.cell?_alloc_new]; rfl, by show (W.alloc _).cell? _ = _; rw [World.cell?_alloc_new]; rfl, by show (W.alloc _).cell? _ = _; rw [World.cell?_alloc_new]; rfl, (below_alloc _ _).drew, by show _ < (W.alloc _).heap.size; simp⟩
  replace hB := hide hB
  replace hR := hide hR
  replace hT := hide hT
  replace hV := hide hV
  go_enter Try.func9, Try.ntmps9
  go_wp2_with fail
  go_region_held3 (fun w' => w'.cell? ⟨W.heap.size, 0, none⟩ = some (.int .i64 op) ∧ w'.cell? ⟨W.heap.size, 1, none⟩ = some (.int .i64 fn) ∧ w'.cell? ⟨W.heap.size, 2, none⟩ = some (.int .i64 rd) ∧ w'.cell? ⟨W.heap.size, 3, none⟩ = some (.int .i64 rs1) ∧ w'.cell? ⟨W.heap.size, 4, none⟩ = some (.int .i64 rs2) ∧ w'.cell? ⟨W.heap.size, 5, none⟩ = some (.int .u64 im) ∧ w'.cell? ⟨W.heap.size, 6, none⟩ = some (.int .i64 sz) ∧ w'.cell? ⟨W.heap.size, 7, none⟩ = some (.bool sg) ∧ w'.cell? ⟨W.heap.size, 8, none⟩ = some (.bool wd) ∧ w'.cell? ⟨W.heap.size, 9, none⟩ = some (.bool ui) ∧ w'.cell? ⟨W.heap.size, 10, none⟩ = some (.int .i64 cs) ∧ Below W.heap.size W w' ∧ W.heap.size < w'.heap.size) (first | exact S0.out | assumption)
    (first
      | (go_at_call 11; refine (awake_c _).mono ?_; rintro e w5 ⟨rfl, rfl⟩)
      | (go_at_call 14; refine (hB.out _).mono ?_; rintro e w5 ⟨rfl, rfl⟩)
      | (go_at_call 15; refine (hR.out _).mono ?_; rintro e w5 ⟨rfl, rfl⟩)
      | (go_at_call 16; refine (hT.out _).mono ?_; rintro e w5 ⟨rfl, hb⟩; have F5 := TZ.out _ _ (by assumption) hb; clear hb)
      | (go_at_call 17; refine (hV.out _).mono ?_; rintro e w5 ⟨rfl, hb⟩; have F5 := TZ.out _ _ (by assumption) hb; clear hb))
  all_goals
    rename_i hH9
    have F9 := hide hH9.2.2.2.2.2.2.2.2.2.2.2.1
    clear hH9
    go_wp2_with fail
    go_ret
    exact ⟨rfl, F9.out⟩
theorem target_both (i : I) (pc a : BitVec 64) : ∃ t, TG 16 i pc a t ∧ TG 17 i pc a t := by
  by_cases h3 : i.op = 3
  · exact ⟨_, t16_3 i pc a h3, t17_3 i pc a h3⟩
  · by_cases h5 : i.op = 5
    · exact ⟨_, t16_5 i pc a h5, t17_5 i pc a h5⟩
    · by_cases h4 : i.op = 4
      · exact ⟨_, t16_4 i pc a h4, t17_4 i pc a h4⟩
      · exact ⟨_, t16_o i pc a h3 h5 h4, t17_o i pc a h3 h5 h4⟩
theorem branch_both (f : Int) (x y : BitVec 64) : ∃ r, B f x y r ∧ RB f x y r := by
  by_cases h0 : f = 0
  · subst h0; exact ⟨_, br_0 x y _ rfl, rb_0 x y _ rfl⟩
  · by_cases h1 : f = 1
    · subst h1; exact ⟨_, br_1 x y _ rfl, rb_1 x y _ rfl⟩
    · by_cases h4 : f = 4
      · subst h4; exact ⟨_, br_4 x y _ rfl, rb_4 x y _ rfl⟩
      · by_cases h5 : f = 5
        · subst h5
          refine ⟨_, br_5 x y (!decide (x.toInt < y.toInt)) ?_, rb_5 x y⟩
          by_cases h : x.toInt < y.toInt
          · rw [decide_eq_true h, decide_eq_false (by omega)]; rfl
          · rw [decide_eq_false h, decide_eq_true (by omega)]; rfl
        · by_cases h6 : f = 6
          · subst h6; exact ⟨_, br_6 x y _ rfl, rb_6 x y _ rfl⟩
          · by_cases h7 : f = 7
            · subst h7; exact ⟨_, br_7 x y _ rfl, rb_7 x y _ rfl⟩
            · exact ⟨_, br_other f x y h0 h1 h4 h5 h6 h7, rb_other f x y h0 h1 h4 h5 h6 h7⟩
theorem branches_w (W : World) (f : Int) (hf : (Lit.int .i64 f).wf = true) (a : Int) (ha : (Lit.int .u64 a).wf = true) (b : Int) (hb : (Lit.int .u64 b).wf = true)
    (i : I) (_ : True) (pc : Int) (hpc : (Lit.int .u64 pc).wf = true) :
    Calls Try.prog 9 #[.int .i64 f, .int .u64 a, .int .u64 b, .agg #[.int .i64 i.op, .int .i64 i.fn, .int .i64 i.rd, .int .i64 i.rs1, .int .i64 i.rs2, .int .u64 i.imm.toNat, .int .i64 i.size, .bool i.signed, .bool i.word, .bool i.useImm, .int .i64 i.csr], .int .u64 pc] W fun e W' => e = .returned (.bool true) ∧ Below W.heap.size W W' := by
  obtain ⟨x, rfl⟩ := of_u64 ha
  obtain ⟨y, rfl⟩ := of_u64 hb
  obtain ⟨p, rfl⟩ := of_u64 hpc
  obtain ⟨op, fn, rd, rs1, rs2, m, sz, sg, wd, ui, cs⟩ := i
  obtain ⟨t, h1, h2⟩ := target_both ⟨op, fn, rd, rs1, rs2, m, sz, sg, wd, ui, cs⟩ p x
  obtain ⟨r, h3, h4⟩ := branch_both f x y
  exact branches_core f _ _ _ _ r op fn rd rs1 rs2 _ sz cs sg wd ui h3 h4 h1 h2 W
end Go.Proofs.Ytnncifcfgjphlaa


/- The walk of QueuePlays. -/
import Derived.Test.YtkjgklpdoomjcaaQueueT
namespace Go.Proofs.Ytkjgklpdoomjcaa
open Go.RowKit
set_option linter.unusedVariables false
set_option linter.unusedSimpArgs false

theorem info34 : (Try.prog.info? 34).map (fun i => (i.zero, i.size, i.bytes)) = some (some (.agg #[.int .u64 0, .int .u32 0, .int .i64 0, .int .u64 0, .int .i64 0]), 5, 40) := by kernel_rfl
/-- What lies: M slots wait, of epoch ep. -/
def QI (W w : World) (N : Nat) (a : Option Addr) (cap M ep : Nat) (L : List S) : Prop := L.length = M ∧ QL w W.heap.size L N ep ∧ Slots w (W.heap.size + 1) a cap L ∧ Below W.heap.size W w
theorem QI.drewN {W w : World} {N : Nat} {a : Option Addr} {cap M ep : Nat} {L : List S} (h : QI W w N a cap M ep L) (k : Nat) : QI W (w.drewN k) N a cap M ep L :=
  ⟨h.1, h.2.1.drewN k, h.2.2.1.keep (only_drewN (World.grownBy.refl _ _) k), below_drewN h.2.2.2 k⟩
theorem QI.keep {W w w' : World} {N : Nat} {a : Option Addr} {cap M ep : Nat} {L : List S} (h : QI W w N a cap M ep L) (g : w.grownBy w' none) : QI W w' N a cap M ep L :=
  ⟨h.1, h.2.1.grown g (by simp), h.2.2.1.keep g, below_none h.2.2.2 g (Nat.le_of_lt h.2.1.lt)⟩
theorem QI.queue {W w w' : World} {N : Nat} {a : Option Addr} {cap M ep : Nat} {L : List S} (h : QI W w N a cap M ep L) {L2 : List S} {ep2 : Nat} (g : w.grownBy w' (some W.heap.size)) (hq : QL w' W.heap.size L2 N ep2) :
    QL w' W.heap.size L2 N ep2 ∧ Slots w' (W.heap.size + 1) a cap L ∧ Below W.heap.size W w' :=
  ⟨hq, h.2.2.1.far g (SL.apart_lt h.2.2.1 (by omega)), below_only h.2.2.2 g (Nat.le_of_lt h.2.1.lt) (Nat.le_refl _)⟩
theorem QI.le {W w : World} {N : Nat} {a : Option Addr} {cap M ep : Nat} {L : List S} (h : QI W w N a cap M ep L) : M ≤ N ∧ N ≤ 16 := by
  have := h.2.1.len
  rw [h.1] at this
  exact this
/-- The queue holds l1, the law's slice l2. -/
def Q3 (W w : World) (N : Nat) (a : Option Addr) (cap ep : Nat) (l1 l2 : List S) : Prop := QL w W.heap.size l1 N ep ∧ Slots w (W.heap.size + 1) a cap l2 ∧ Below W.heap.size W w
theorem Q3.keep {W w w' : World} {N : Nat} {a : Option Addr} {cap ep : Nat} {l1 l2 : List S} (h : Q3 W w N a cap ep l1 l2) (g : w.grownBy w' none) : Q3 W w' N a cap ep l1 l2 :=
  ⟨h.1.grown g (by simp), h.2.1.keep g, below_none h.2.2 g (Nat.le_of_lt h.1.lt)⟩
theorem Q3.cut {W w : World} {N : Nat} {a : Option Addr} {cap ep : Nat} {l1 l : List S} {x : S} (h : Q3 W w N a cap ep l1 (x :: l)) : Q3 W w N (cutAt 5 a cap 1) (cap - 1) ep l1 l :=
  ⟨h.1, by
    have h := SL.cut (k := 1) h.2.1 (by simp)
    simpa [Slots, S.l] using h, h.2.2⟩
theorem Q3.qi {W w : World} {N : Nat} {a : Option Addr} {cap ep : Nat} {l : List S} (h : Q3 W w N a cap ep l l) {M : Nat} (hM : l.length = M) : QI W w N a cap M ep l := ⟨hM, h.1, h.2.1, h.2.2⟩
theorem cutAt_one {size : Nat} {a : Option Addr} : cutAt size a 1 1 = a := if_pos rfl
theorem cutAt_some {size cap : Nat} {g off : Nat} (h : cap ≠ 1) : cutAt size (some ⟨g, off, none⟩) cap 1 = some ⟨g, off + size, none⟩ := by
  unfold cutAt
  rw [if_neg h, Option.map_some, addr_add, Nat.one_mul]
theorem own_ne {a : Option Addr} {g : Nat} (h : Apart a g) : some g ≠ own a := fun e => by
  cases a with
  | none => cases e
  | some ad =>
    injection e with e
    exact h ad rfl e.symm
theorem own_big {W w : World} {N : Nat} {a : Option Addr} {cap ep : Nat} {l1 l2 : List S} (h : Q3 W w N a cap ep l1 l2) : ∀ k, own a = some k → W.heap.size ≤ k := fun k e => by
  cases a with
  | none => cases e
  | some ad =>
    injection e with e
    obtain ⟨g, off, rfl, h1, _⟩ := SL.lies h.2.1 ad rfl
    subst e
    show W.heap.size ≤ g
    omega
/-- A slot is put behind the law's own ones. -/
theorem Q3.append {W w w' : World} {N : Nat} {a a' : Option Addr} {cap cap' ep M : Nat} {l1 l2 : List S} {s : S} (h : Q3 W w N a cap ep l1 l2) (hM : l2.length = M) (g : w.grownBy w' (own a)) (hs : SL w' (W.heap.size + 1) 5 a' (M + 1) cap' (l2.flatMap S.l ++ s.l)) : Q3 W w' N a' cap' ep l1 (l2 ++ [s]) := by
  refine ⟨h.1.grown g (own_ne (SL.apart_lt h.2.1 (by omega))), ?_, h.2.2.grown g (Nat.le_of_lt h.1.lt) (fun k e => own_big h k e)⟩
  unfold Slots
  rw [List.length_append, hM, List.flatMap_append]
  simpa using hs
theorem Q3.push {W w w' : World} {N : Nat} {a : Option Addr} {cap ep ep2 : Nat} {l1 l2 l3 : List S} (h : Q3 W w N a cap ep l1 l2) (g : w.grownBy w' (some W.heap.size)) (hq : QL w' W.heap.size l3 N ep2) : Q3 W w' N a cap ep2 l3 l2 :=
  ⟨hq, h.2.1.far g (SL.apart_lt h.2.1 (by omega)), below_only h.2.2 g (Nat.le_of_lt h.1.lt) (Nat.le_refl _)⟩
theorem QI.q3 {W w : World} {N : Nat} {a : Option Addr} {cap M ep : Nat} {l : List S} (h : QI W w N a cap M ep l) : Q3 W w N a cap ep l l := ⟨h.2.1, h.2.2.1, h.2.2.2⟩
theorem told22_any (b : Nat) (w : World) (l : List S) (M of ep : Nat) (base : Nat) (a : Option Addr) (cap : Nat) (lo hi : Int) (hq : QL w b l of ep) (hs : Slots w base a cap l) (hM : l.length = M) :
    Calls Try.prog 29 #[.pointer (some ⟨b, 0, none⟩), .slice a M cap, .int .i64 ep, .int .i64 of, .int .u64 lo, .int .u64 hi] w (TR b w l of ep) := by
  cases l with
  | nil =>
    subst hM
    exact told22_no b w of ep base a cap lo hi hq
  | cons s l => exact told22_yes b w s l M of ep base a cap lo hi hq hs hM
theorem slot_src (s : S) (w : World) (T : TypeId) : Src Try.prog 5 50 (.slice (some ⟨w.heap.size, 0, none⟩) 1 1) 1 s.l (w.alloc (.cells #[.int .u64 s.pc, .int .u32 s.bits, .int .i64 s.fault, .int .u64 s.next, .int .i64 s.epoch] T)) :=
  Src.ofSlice _ Try.underlying50 ⟨w.heap.size, 0, none⟩ 1 1 s.l rfl (fun j u hu => by
    rw [addr_add, Nat.zero_add, World.cell?_alloc_new]
    simpa [S.l] using hu) (fun u hu => by
    simp only [S.l, List.mem_cons, List.not_mem_nil, or_false] at hu
    rcases hu with rfl | rfl | rfl | rfl | rfl <;> rfl)
theorem keepc {w : World} {p : Addr} {v : Value} (hb : p.block < w.heap.size) (hc : w.cell? p = some v) : Hid (∀ W, Below w.heap.size w W → W.cell? p = some v) := fun W h => (h.cell hb).trans hc

set_option maxRecDepth 100000 in
set_option maxHeartbeats 6400000 in
theorem plays22_walk (W : World) (n : Int) (wn : (Lit.int .i64 n).wf = true) (sa : Option Addr) (len cs : Nat) (hlen : len ≤ 9223372036854775807) (hr : RowOf W sa len 6 Op22.l Op22.wf) (lo : Int) (wlo : (Lit.int .u64 lo).wf = true) (hi : Int) (whi : (Lit.int .u64 hi).wf = true) :
    Calls Try.prog 6 #[.int .i64 n, .slice sa len cs, .int .u64 lo, .int .u64 hi] W fun e w' => e = .returned (.bool true) ∧ Below W.heap.size W w' := by
  clear wn wlo whi
  by_cases hn : n < 1 ∨ 16 < n
  · have N1 := hide (new_no n W hn)
    have t : (decide (n ≥ 1) && decide (n ≤ 16)) = false := by
      rcases hn with h | h
      · simp; omega
      · simp; omega
    clear hr
    rcases hn with hn | hn
    · have d1 : decide (1 ≤ n) = false := by simp; omega
      clear t
      go_enter Try.func6, Try.ntmps6
      go_wp2_with fail
      refine N1.out.mono ?_
      rintro e w1 ⟨rfl, rfl⟩
      simp only []
      go_wp2_with fail
      refine (awake22 _).mono ?_
      rintro e w2 ⟨rfl, hg⟩
      have B2 := hide (below_none (Below.refl w1.heap.size w1) hg (Nat.le_refl _))
      clear hg
      simp only []
      go_wp2_with fail
      go_ret
      exact ⟨rfl, B2.out⟩
    · have d1 : decide (1 ≤ n) = true := by simp; omega
      have d2 : decide (n ≤ 16) = false := by simp; omega
      clear t
      go_enter Try.func6, Try.ntmps6
      go_wp2_with fail
      refine N1.out.mono ?_
      rintro e w1 ⟨rfl, rfl⟩
      simp only []
      go_wp2_with fail
      refine (awake22 _).mono ?_
      rintro e w2 ⟨rfl, hg⟩
      have B2 := hide (below_none (Below.refl w1.heap.size w1) hg (Nat.le_refl _))
      clear hg
      simp only []
      go_wp2_with fail
      go_ret
      exact ⟨rfl, B2.out⟩
  · obtain ⟨N, rfl⟩ : ∃ N : Nat, n = N := ⟨n.toNat, by omega⟩
    have N1 : 1 ≤ N := by omega
    have N2 : N ≤ 16 := by omega
    clear hn
    have d1 : decide (1 ≤ (N : Int)) = true := by simp; omega
    have d2 : decide ((N : Int) ≤ 16) = true := by simp; omega
    have HR := hide hr
    clear hr
    go_enter Try.func6, Try.ntmps6
    go_wp2_with fail
    refine (lnew N _ N1 N2).mono ?_
    rintro e w1 ⟨rfl, hg, hz, hq⟩
    have B1 := hide (below_none (Below.refl W.heap.size W) hg (Nat.le_refl _))
    have Q1 := hide hq
    clear hg hq
    simp only []
    go_wp2_with fail
    refine (awake22 _).mono ?_
    rintro e w2 ⟨rfl, hg⟩
    have hz2 : W.heap.size < w2.heap.size := Nat.lt_of_lt_of_le hz hg.size
    have I2 := hide (show QI W w2 N none 0 0 0 [] from ⟨rfl, Q1.out.grown hg (by simp), SL.nil, below_none B1.out hg (Nat.le_of_lt hz)⟩)
    clear hg hz
    simp only []
    go_wp2_with fail
    go_loopg [11, 12, 13] 300 (fun gg vl vep vi wr => ∃ (i ep M cap : Nat) (a : Option Addr), i + gg = 300 ∧ ep ≤ i ∧ vl = .slice a M cap ∧ vep = .int .i64 ep ∧ vi = .int .i64 i ∧ W.heap.size < wr.heap.size ∧ Hid (∃ L, QI W wr N a cap M ep L))
    case atStart => exact ⟨0, 0, 0, 0, none, by omega, by omega, rfl, rfl, rfl, hz2, _, I2.out⟩
    case round =>
      obtain ⟨i, ep, M, cap, a, hig, hep, rfl, rfl, rfl, hz3, hI⟩ := hrel
      by_cases hlt : i < len
      · by_cases h300 : i < 300
        · obtain ⟨ba, off, ⟨kind, s⟩, rfl, hba, hwf, hc⟩ := HR.out i hlt
          have hbel : Below W.heap.size W wr := by obtain ⟨L, h⟩ := hI.out; exact h.2.2.2
          have c0 := (keepc hba (show W.cell? ⟨ba, off + i * 6, none⟩ = some (.int .i64 kind) from hc 0 (by omega))).out _ hbel
          have c1 := (keepc hba (show W.cell? ⟨ba, off + i * 6 + 1, none⟩ = some (.int .u64 s.pc) from hc 1 (by omega))).out _ hbel
          have c2 := (keepc hba (show W.cell? ⟨ba, off + i * 6 + 2, none⟩ = some (.int .u32 s.bits) from hc 2 (by omega))).out _ hbel
          have c3 := (keepc hba (show W.cell? ⟨ba, off + i * 6 + 3, none⟩ = some (.int .i64 s.fault) from hc 3 (by omega))).out _ hbel
          have c4 := (keepc hba (show W.cell? ⟨ba, off + i * 6 + 4, none⟩ = some (.int .u64 s.next) from hc 4 (by omega))).out _ hbel
          have c5 := (keepc hba (show W.cell? ⟨ba, off + i * 6 + 5, none⟩ = some (.int .i64 s.epoch) from hc 5 (by omega))).out _ hbel
          clear hc hwf hbel
          have hba2 : ba < wr.heap.size := by omega
          have hii : decide ((i : Int) < (len : Int)) = true := by simp; omega
          have hi3 : decide ((i : Int) < 300) = true := by simp; omega
          go_upto_block 2 with (fail)
          have I4 := hide (show ∃ L, QI W (wr.alloc (.cells #[.int .u64 s.pc, .int .u32 s.bits, .int .i64 s.fault, .int .u64 s.next, .int .i64 s.epoch] 34)) N a cap M ep L from by
            obtain ⟨L, h⟩ := hI.out
            exact ⟨L, h.keep (only_alloc (World.grownBy.refl _ _) _)⟩)
          have bx := S.five (S.box s wr)
          have bz : wr.heap.size < (wr.alloc (.cells #[.int .u64 s.pc, .int .u32 s.bits, .int .i64 s.fault, .int .u64 s.next, .int .i64 s.epoch] 34)).heap.size := by simp
          have bg : W.heap.size < wr.heap.size := hz3
          have AG := hide (show Apart a wr.heap.size by
            obtain ⟨L, h⟩ := hI.out
            exact SL.apart_new h.2.2.1 (Nat.le_refl _))
          have cb := hide (S.box s wr)
          generalize wr.alloc (.cells #[.int .u64 s.pc, .int .u32 s.bits, .int .i64 s.fault, .int .u64 s.next, .int .i64 s.epoch] 34) = w4 at *
          generalize wr.heap.size = gb at *
          obtain ⟨b0, b1, b2, b3, b4⟩ := bx
          have hz4 : W.heap.size < w4.heap.size := by omega
          clear hI c0 c1 c2 c3 c4 c5 hii hi3 hz3
          go_cut [11, 12] (fun vl vep wc => ∃ (ep M cap : Nat) (a : Option Addr), ep ≤ i + 1 ∧ vl = .slice a M cap ∧ vep = .int .i64 ep ∧ W.heap.size < wc.heap.size ∧ Hid (∃ L, QI W wc N a cap M ep L))
          case first =>
            obtain ⟨L, hQ⟩ := I4.out
            have HQ := hide hQ
            obtain ⟨hM, hql, hsl, hbel⟩ := hQ
            have hMN : M ≤ N := HQ.out.le.1
            have hcap := SL.le hsl
            rw [hM] at hcap
            have hmax := SL.max hsl
            unfold maxLen at hmax
            clear I4
            by_cases hk1 : kind = 1
            · have t1 : (kind == 1) = true := beq_iff_eq.2 hk1
              clear hk1
              cases L with
              | nil =>
                have hM0 : M = 0 := hM.symm
                subst hM0
                have PP := hide (lpop_no hql)
                clear hM hql hsl hbel
                go_wp2_with fail
                refine PP.out.mono ?_
                rintro e w5 ⟨rfl, hg, hq⟩
                have I5 := hide (HQ.out.keep (only_alloc hg (.cells #[.int .u64 0, .int .u32 0, .int .i64 0, .int .u64 0, .int .i64 0] 34)))
                have bx := S.five (S.box ⟨0, 0, 0, 0, 0⟩ w5)
                have hz5 : W.heap.size < w5.heap.size := Nat.lt_of_lt_of_le hz4 hg.size
                clear hg hq PP b0 b1 b2 b3 b4
                simp only []
                go_wp2_with fail
                have bz : w5.heap.size < (w5.alloc (.cells #[.int .u64 0, .int .u32 0, .int .i64 0, .int .u64 0, .int .i64 0] 34)).heap.size := by simp
                generalize w5.alloc (.cells #[.int .u64 0, .int .u32 0, .int .i64 0, .int .u64 0, .int .i64 0] 34) = w6 at *
                obtain ⟨b0, b1, b2, b3, b4⟩ := bx
                have hz6 : W.heap.size < w6.heap.size := by omega
                go_quiet (fail)
                go_wp2_with fail
                go_meet
                exact ⟨ep, 0, cap, a, by omega, rfl, rfl, hz6, _, I5.out.drewN nq⟩
              | cons x l =>
                have PP := hide (lpop_yes hql)
                obtain ⟨g, off2, hga, -, hgl, -⟩ := hsl.first
                subst hga
                have hM1 : 0 < M := by rw [← hM]; simp
                have hd : decide ((0 : Int) < (M : Int)) = true := by simp; omega
                have HM := hide hM
                clear hM hql hsl hbel
                go_wp2_with fail
                refine PP.out.mono ?_
                rintro e w5 ⟨rfl, hg, hq⟩
                have I5 := hide (HQ.out.queue hg hq)
                have bx := S.five (S.box x w5)
                have hz5 : W.heap.size < w5.heap.size := Nat.lt_of_lt_of_le hz4 hg.size
                clear hg hq PP b0 b1 b2 b3 b4
                simp only []
                go_wp2_with fail
                have bz : w5.heap.size < (w5.alloc (.cells #[.int .u64 x.pc, .int .u32 x.bits, .int .i64 x.fault, .int .u64 x.next, .int .i64 x.epoch] 34)).heap.size := by simp
                have I6 := hide (Q3.keep (W := W) (N := N) (a := some ⟨g, off2, none⟩) (cap := cap) (ep := ep) (l1 := l) (l2 := x :: l) I5.out (only_alloc (World.grownBy.refl _ _) (.cells #[.int .u64 x.pc, .int .u32 x.bits, .int .i64 x.fault, .int .u64 x.next, .int .i64 x.epoch] 34)))
                generalize w5.alloc (.cells #[.int .u64 x.pc, .int .u32 x.bits, .int .i64 x.fault, .int .u64 x.next, .int .i64 x.epoch] 34) = w6 at *
                obtain ⟨b0, b1, b2, b3, b4⟩ := bx
                have hz6 : W.heap.size < w6.heap.size := by omega
                obtain ⟨g', off', hge, -, -, c0, c1, c2, c3, c4⟩ := I6.out.2.1.first
                injection hge with hge
                injection hge with hg1 hg2
                subst hg1 hg2
                go_quiet (fail)
                have I7 := hide (Q3.cut (I6.out.keep (only_drewN (World.grownBy.refl _ _) nq)))
                have hz7 : W.heap.size < (w6.drewN nq).heap.size := hz6
                generalize w6.drewN nq = w7 at *
                clear b0 b1 b2 b3 b4 c0 c1 c2 c3 c4
                by_cases hc1 : cap = 1
                · have hM2 : M = 1 := by omega
                  subst hc1 hM2
                  rw [cutAt_one] at I7
                  go_wp2_with fail
                  go_meet
                  exact ⟨ep, 0, 0, some ⟨g, off2, none⟩, by omega, rfl, rfl, hz7, l, I7.out.qi (by have := HM.out; simp at this; simp [this])⟩
                · have hc2 : 2 ≤ cap := by omega
                  rw [cutAt_some hc1] at I7
                  have nc1 : ¬ cap = 1 := hc1
                  clear hc1
                  go_wp2_with fail
                  go_meet
                  exact ⟨ep, M - 1, cap - 1, some ⟨g, off2 + 5, none⟩, by omega, by go_num, rfl, hz7, l, I7.out.qi (by have := HM.out; simp at this; omega)⟩
            · have t1 : (kind == 1) = false := beq_eq_false_iff_ne.2 hk1
              clear hk1
              by_cases hk2 : kind = 2
              · have t2 : (kind == 2) = true := beq_iff_eq.2 hk2
                have PP := hide (lsquash hql (by omega))
                rw [hM] at PP
                clear hk2 hM hql hsl hbel
                go_wp2_with fail
                refine PP.out.mono ?_
                rintro e w5 ⟨rfl, hg, hq⟩
                have I5 := hide (show QI W w5 N none 0 0 (ep + 1) [] from ⟨rfl, hq, SL.nil, (HQ.out.q3.push hg hq).2.2⟩)
                have hz5 : W.heap.size < w5.heap.size := Nat.lt_of_lt_of_le hz4 hg.size
                clear hg hq PP b0 b1 b2 b3 b4
                simp only []
                go_wp2_with fail
                go_meet
                exact ⟨ep + 1, 0, 0, none, by omega, rfl, by go_num, hz5, _, I5.out⟩
              · have t2 : (kind == 2) = false := beq_eq_false_iff_ne.2 hk2
                clear hk2
                by_cases he : s.epoch = ep
                · have t3 : (s.epoch != (ep : Int)) = false := bne_eq_false_iff_eq.2 he
                  by_cases hf : M = N
                  · have t4 : ((M : Int) == (N : Int)) = true := beq_iff_eq.2 (by omega)
                    have PP := hide (lpush_full s hql (hM.trans hf) he)
                    clear hf he hM hql hsl hbel
                    go_wp2_with fail
                    refine PP.out.mono ?_
                    rintro e w5 ⟨rfl, hg, hq⟩
                    have I5 := hide (HQ.out.keep hg)
                    have hz5 : W.heap.size < w5.heap.size := Nat.lt_of_lt_of_le hz4 hg.size
                    clear hg hq PP b0 b1 b2 b3 b4
                    simp only []
                    go_wp2_with fail
                    go_meet
                    exact ⟨ep, M, cap, a, by omega, rfl, rfl, hz5, _, I5.out⟩
                  · have t4 : ((M : Int) == (N : Int)) = false := beq_eq_false_iff_ne.2 (by omega)
                    obtain ⟨i0, hi0, hi1, hi2, hi3'⟩ := info_parts info34
                    have II := hide (And.intro hi0 (And.intro hi1 (And.intro hi2 hi3')))
                    have SA := hide (And.intro (SL.keep hsl (only_alloc (World.grownBy.refl _ _) (.cells #[.int .u64 s.pc, .int .u32 s.bits, .int .i64 s.fault, .int .u64 s.next, .int .i64 s.epoch] 34))) (slot_src s w4 34))
                    rw [hM] at SA
                    have PP := hide (fun (w7 : World) (h : QL w7 W.heap.size L N ep) => lpush_ok s h (by rw [hM]; omega) he)
                    have HM := hide hM
                    have hsz : (w4.alloc (.cells #[.int .u64 s.pc, .int .u32 s.bits, .int .i64 s.fault, .int .u64 s.next, .int .i64 s.epoch] 34)).heap.size = w4.heap.size + 1 := by simp
                    have HB := hide (show W.heap.size + 1 ≤ (w4.alloc (.cells #[.int .u64 s.pc, .int .u32 s.bits, .int .i64 s.fault, .int .u64 s.next, .int .i64 s.epoch] 34)).heap.size by omega)
                    have H63 := hide (show M + 1 ≤ maxLen by unfold maxLen; omega)
                    have H40 := hide (show (M + 1) * 40 ≤ 140737488355328 by omega)
                    clear hf he hM hql hsl hbel hi0 hi1 hi2 hi3' hsz
                    go_wp2_with (at_builtin; refine wpList_append_sl _ rfl _ _ 50 (by rfl) (W.heap.size + 1) 34 i0 _ 5 40 Try.underlying50 II.out.1 II.out.2.1 II.out.2.2.1 II.out.2.2.2 (by rfl) a M cap (L.flatMap S.l) (by rfl) SA.out.1 (.slice (some ⟨w4.heap.size, 0, none⟩) 1 1) 1 s.l (by rfl) SA.out.2 (.inl (by omega)) H63.out H40.out HB.out ?_; intro a' cap' w6 hsl6 hg6 how6; clear b0 b1 b2 b3 b4; have I6 := hide (Q3.append (HQ.out.q3.keep (only_alloc (World.grownBy.refl _ _) _)) HM.out hg6 hsl6); have hz6 : W.heap.size < w6.heap.size := Nat.lt_of_lt_of_le HB.out hg6.size; obtain ⟨b0, b1, b2, b3, b4⟩ := S.five ((cb.out.alloc _).grown hg6 (own_ne AG.out)); clear hsl6 hg6 how6 SA)
                    refine (PP.out _ I6.out.1).mono ?_
                    rintro e w7 ⟨rfl, hg, hq⟩
                    have I7 := hide (Q3.qi (I6.out.push hg hq) (M := M + 1) (by rw [List.length_append, HM.out]; rfl))
                    have hz7 : W.heap.size < w7.heap.size := Nat.lt_of_lt_of_le hz6 hg.size
                    clear hg hq PP b0 b1 b2 b3 b4
                    simp only []
                    go_wp2_with fail
                    go_meet
                    exact ⟨ep, M + 1, cap', a', by omega, rfl, rfl, hz7, _, I7.out⟩
                · have t3 : (s.epoch != (ep : Int)) = true := bne_iff_ne.2 he
                  have PP := hide (lpush_form s hql he)
                  clear he hM hql hsl hbel
                  go_wp2_with fail
                  refine PP.out.mono ?_
                  rintro e w5 ⟨rfl, hg, hq⟩
                  have I5 := hide (HQ.out.keep hg)
                  have hz5 : W.heap.size < w5.heap.size := Nat.lt_of_lt_of_le hz4 hg.size
                  clear hg hq PP b0 b1 b2 b3 b4
                  simp only []
                  go_wp2_with fail
                  go_meet
                  exact ⟨ep, M, cap, a, by omega, rfl, rfl, hz5, _, I5.out⟩
          case rest =>
            obtain ⟨ep2, M2, cap2, a2, hep2, rfl, rfl, hz5, hI2⟩ := hcut
            obtain ⟨L2, hQ⟩ := hI2.out
            have HQ := hide hQ
            have TT := hide (told22_any W.heap.size _ L2 M2 N ep2 _ a2 cap2 lo hi hQ.2.1 hQ.2.2.1 hQ.1)
            clear hQ hI2 I4 b0 b1 b2 b3 b4
            go_wp2_with fail
            refine TT.out.mono ?_
            rintro e w5 ⟨rfl, hg, hq⟩
            have I5 := hide (HQ.out.keep hg)
            have hz6 : W.heap.size < w5.heap.size := Nat.lt_of_lt_of_le hz5 hg.size
            clear hg hq TT
            simp only []
            go_wp2_with fail
            go_roundg (300 - (i + 1))
            case measure => omega
            case rel => exact ⟨i + 1, ep2, M2, cap2, a2, by omega, hep2, rfl, rfl, by go_num, hz6, _, I5.out⟩
        · have hii : decide ((i : Int) < (len : Int)) = true := by simp; omega
          have hi3 : decide ((i : Int) < 300) = false := by simp; omega
          go_wp2_with fail
          go_ret
          exact ⟨rfl, by obtain ⟨L, h⟩ := hI.out; exact h.2.2.2⟩
      · have hii : decide ((i : Int) < (len : Int)) = false := by simp; omega
        go_wp2_with fail
        go_ret
        exact ⟨rfl, by obtain ⟨L, h⟩ := hI.out; exact h.2.2.2⟩
end Go.Proofs.Ytkjgklpdoomjcaa

/- The law's own slice of slots; the contract of 'told', the walk of QueuePlays. -/
import Derived.Test.YtkjgklpdoomjcaaQueueL
import Derived.Test.YtkjgklpdoomjcaaOpenT
import Derived.Test.YtkjgklpdoomjcaaRow
import Derived.Deep.DeepCutAuto
import Derived.Deep.CutBlock
import Derived.Deep.LoopGhost
namespace Go.Proofs.Ytkjgklpdoomjcaa
open Go.RowKit
set_option linter.unusedVariables false
set_option linter.unusedSimpArgs false

theorem flat_get {α : Type} (f : α → List Value) (C : Nat) (hC : ∀ x, (f x).length = C) : ∀ (L : List α) (i : Nat) (hi : i < L.length) (j : Nat), j < C → (L.flatMap f)[i * C + j]? = (f L[i])[j]?
  | x :: L, 0, _, j, hj => by
    rw [List.flatMap_cons, Nat.zero_mul, Nat.zero_add, List.getElem?_append_left (by rw [hC]; exact hj)]
    rfl
  | x :: L, i + 1, hi, j, hj => by
    rw [List.flatMap_cons, List.getElem?_append_right (by rw [hC, Nat.succ_mul]; omega), hC, show (i + 1) * C + j - C = i * C + j by rw [Nat.succ_mul]; omega]
    exact flat_get f C hC L i (by simpa using hi) j hj
theorem S.l_len (s : S) : s.l.length = 5 := rfl
theorem flat_len {α : Type} (f : α → List Value) (C : Nat) (hC : ∀ x, (f x).length = C) : ∀ (L : List α), (L.flatMap f).length = L.length * C
  | [] => by simp
  | x :: L => by rw [List.flatMap_cons, List.length_append, hC, flat_len f C hC L, List.length_cons, Nat.succ_mul, Nat.add_comm]

/-- A slice of slots. -/
def Slots (w : World) (base : Nat) (a : Option Addr) (cap : Nat) (L : List S) : Prop := SL w base 5 a L.length cap (L.flatMap S.l)
section
variable {w w' : World} {base cap : Nat} {a : Option Addr} {L : List S}
theorem Slots.keep (h : Slots w base a cap L) (g : w.grownBy w' none) : Slots w' base a cap L := SL.keep h g
theorem Slots.far (h : Slots w base a cap L) {r : Nat} (g : w.grownBy w' (some r)) (hr : Apart a r) : Slots w' base a cap L := SL.far h g hr
theorem Slots.at_ (h : Slots w base a cap L) (i : Nat) (hi : i < L.length) : ∃ g off, a = some ⟨g, off, none⟩ ∧ base ≤ g ∧ g < w.heap.size ∧ (w.cell? ⟨g, off + i * 5, none⟩ = some (.int .u64 L[i].pc) ∧ w.cell? ⟨g, off + i * 5 + 1, none⟩ = some (.int .u32 L[i].bits) ∧ w.cell? ⟨g, off + i * 5 + 2, none⟩ = some (.int .i64 L[i].fault) ∧ w.cell? ⟨g, off + i * 5 + 3, none⟩ = some (.int .u64 L[i].next) ∧ w.cell? ⟨g, off + i * 5 + 4, none⟩ = some (.int .i64 L[i].epoch)) := by
  obtain ⟨g, off, ha, hb, hg, hc⟩ := SL.head h (by omega)
  refine ⟨g, off, ha, hb, hg, ?_, ?_, ?_, ?_, ?_⟩
  · exact hc (i * 5 + 0) _ ((flat_get S.l 5 S.l_len L i hi 0 (by omega)).trans rfl)
  · exact hc (i * 5 + 1) _ ((flat_get S.l 5 S.l_len L i hi 1 (by omega)).trans rfl)
  · exact hc (i * 5 + 2) _ ((flat_get S.l 5 S.l_len L i hi 2 (by omega)).trans rfl)
  · exact hc (i * 5 + 3) _ ((flat_get S.l 5 S.l_len L i hi 3 (by omega)).trans rfl)
  · exact hc (i * 5 + 4) _ ((flat_get S.l 5 S.l_len L i hi 4 (by omega)).trans rfl)
theorem Slots.first {s : S} {l : List S} (h : Slots w base a cap (s :: l)) : ∃ g off, a = some ⟨g, off, none⟩ ∧ base ≤ g ∧ g < w.heap.size ∧ w.cell? ⟨g, off, none⟩ = some (.int .u64 s.pc) ∧ w.cell? ⟨g, off + 1, none⟩ = some (.int .u32 s.bits) ∧ w.cell? ⟨g, off + 2, none⟩ = some (.int .i64 s.fault) ∧ w.cell? ⟨g, off + 3, none⟩ = some (.int .u64 s.next) ∧ w.cell? ⟨g, off + 4, none⟩ = some (.int .i64 s.epoch) := by
  obtain ⟨g, off, ha, hb, hg, c0, c1, c2, c3, c4⟩ := h.at_ 0 (by simp)
  simp only [Nat.zero_mul, Nat.add_zero] at c0 c1 c2 c3 c4
  exact ⟨g, off, ha, hb, hg, c0, c1, c2, c3, c4⟩
end

/-- What 'told' answers. -/
def TR (b : Nat) (w : World) (l : List S) (of ep : Nat) (e : Ending) (w' : World) : Prop := e = .returned (.bool true) ∧ w.grownBy w' none ∧ QL w' b l of ep
theorem any_take_succ (f : S → Bool) (l : List S) (i : Nat) (hi : i < l.length) : (l.take (i + 1)).any f = ((l.take i).any f || f l[i]) := by
  rw [List.take_succ_eq_append_getElem hi, List.any_append]
  simp

set_option maxRecDepth 100000 in
set_option maxHeartbeats 3200000 in
theorem told22_no (b : Nat) (w : World) (of ep : Nat) (base : Nat) (a : Option Addr) (cap : Nat) (lo hi : Int) (hq : QL w b [] of ep) :
    Calls Try.prog 29 #[.pointer (some ⟨b, 0, none⟩), .slice a 0 cap, .int .i64 ep, .int .i64 of, .int .u64 lo, .int .u64 hi] w (TR b w [] of ep) := by
  have hof := hq.len.2
  have PK := hide (lpeek_no hq)
  clear hq
  have hwr : IntKind.i64.wrap (of : Int) = of := IntWalk.i64_in _ (by omega)
  go_enter Try.func29, Try.ntmps29
  go_wp2_with fail
  refine PK.out.mono ?_
  rintro e w1 ⟨rfl, hg, hq1⟩
  have Q1 := hide (hq1.alloc (.cells #[.int .u64 0, .int .u32 0, .int .i64 0, .int .u64 0, .int .i64 0] 34))
  have G1 := hide (only_alloc hg (.cells #[.int .u64 0, .int .u32 0, .int .i64 0, .int .u64 0, .int .i64 0] 34))
  have bx := S.five (S.box ⟨0, 0, 0, 0, 0⟩ w1)
  clear hg hq1
  simp only []
  go_wp2_with fail
  generalize w1.alloc (.cells #[.int .u64 0, .int .u32 0, .int .i64 0, .int .u64 0, .int .i64 0] 34) = wa at *
  obtain ⟨b0, b1, b2, b3, b4⟩ := bx
  have LL := hide (fun n => show Calls Try.prog 21 #[.pointer (some ⟨b, 0, none⟩)] (wa.drewN n) fun e w' => e = .returned (.int .i64 0) ∧ w' = wa.drewN n from (llen (Q1.out.drewN n)).mono fun _ _ h => ⟨h.1, h.2.symm⟩)
  have LR := hide (fun n => show Calls Try.prog 19 #[.pointer (some ⟨b, 0, none⟩)] (wa.drewN n) fun e w' => e = .returned (.int .i64 of) ∧ ∃ m, w' = (wa.drewN n).drewN m from (lroom (Q1.out.drewN n)).mono fun _ _ h => ⟨by simpa using h.1, h.2⟩)
  have LE := hide (fun n => show Calls Try.prog 24 #[.pointer (some ⟨b, 0, none⟩)] (wa.drewN n) fun e w' => e = .returned (.int .i64 ep) ∧ w' = wa.drewN n from (lepoch (Q1.out.drewN n)).mono fun _ _ h => ⟨h.1, h.2.symm⟩)
  go_quiet ((first | (go_at_call 21; exact Calls.quiet_of_same (LL.out _)) | (go_at_call 24; exact Calls.quiet_of_same (LE.out _)) | (go_at_call 19; exact Calls.quiet_of (LR.out _))))
  have H2 := hide (And.intro (only_drewN G1.out nq) (lholds lo hi (Q1.out.drewN nq)))
  have QQ := hide (Q1.out.drewN nq)
  generalize wa.drewN nq = w3 at *
  clear b0 b1 b2 b3 b4 LL LR LE
  go_wp2_with fail
  refine wp_loop_rounds 1 ?_
  rw [rounds_succ]
  go_wp2_with fail
  refine H2.out.2.mono ?_
  rintro e w4 ⟨rfl, k, rfl⟩
  simp only []
  go_wp2_with fail
  go_ret
  exact ⟨rfl, only_drewN H2.out.1 k, QQ.out.drewN k⟩
set_option maxRecDepth 100000 in
set_option maxHeartbeats 3200000 in
theorem told22_yes (b : Nat) (w : World) (s : S) (l : List S) (N of ep : Nat) (base : Nat) (a : Option Addr) (cap : Nat) (lo hi : Int) (hq : QL w b (s :: l) of ep) (hs : Slots w base a cap (s :: l)) (hN : (s :: l).length = N) :
    Calls Try.prog 29 #[.pointer (some ⟨b, 0, none⟩), .slice a N cap, .int .i64 ep, .int .i64 of, .int .u64 lo, .int .u64 hi] w (TR b w (s :: l) of ep) := by
  have hof := hq.len
  have hcap := SL.le hs
  have hmax := SL.max hs
  unfold maxLen at hmax
  have PK := hide (lpeek_yes hq)
  obtain ⟨g, off, rfl, hgb, hgl, -⟩ := hs.first
  have HS := hide hs
  have N0 : 0 < N := by simp at hN; omega
  rw [hN] at hof hcap
  have HN := hide hN
  clear hq hs hN
  obtain ⟨hof1, hof2⟩ := hof
  have hwr : IntKind.i64.wrap ((of : Int) - (N : Int)) = (of : Int) - (N : Int) := IntWalk.i64_in _ (by omega)
  have hd : decide ((0 : Int) < (N : Int)) = true := by simpa using N0
  go_enter Try.func29, Try.ntmps29
  go_wp2_with fail
  refine PK.out.mono ?_
  rintro e w1 ⟨rfl, hg, hq1⟩
  have Q1 := hide (hq1.alloc (.cells #[.int .u64 s.pc, .int .u32 s.bits, .int .i64 s.fault, .int .u64 s.next, .int .i64 s.epoch] 34))
  have G1 := hide (only_alloc hg (.cells #[.int .u64 s.pc, .int .u32 s.bits, .int .i64 s.fault, .int .u64 s.next, .int .i64 s.epoch] 34))
  have bx := S.five (S.box s w1)
  clear hg hq1
  simp only []
  go_wp2_with fail
  generalize w1.alloc (.cells #[.int .u64 s.pc, .int .u32 s.bits, .int .i64 s.fault, .int .u64 s.next, .int .i64 s.epoch] 34) = wa at *
  obtain ⟨b0, b1, b2, b3, b4⟩ := bx
  have SW := hide (HS.out.keep G1.out)
  obtain ⟨g', off', hge, -, -, c0, c1, c2, c3, c4⟩ := SW.out.first
  injection hge with hge
  injection hge with hg1 hg2
  subst hg1 hg2
  have LL := hide (fun n => show Calls Try.prog 21 #[.pointer (some ⟨b, 0, none⟩)] (wa.drewN n) fun e w' => e = .returned (.int .i64 N) ∧ w' = wa.drewN n from (llen (Q1.out.drewN n)).mono fun _ _ h => ⟨by rw [h.1, HN.out], h.2.symm⟩)
  have LR := hide (fun n => show Calls Try.prog 19 #[.pointer (some ⟨b, 0, none⟩)] (wa.drewN n) fun e w' => e = .returned (.int .i64 ((of : Int) - (N : Int))) ∧ ∃ m, w' = (wa.drewN n).drewN m from (lroom (Q1.out.drewN n)).mono fun _ _ h => ⟨by rw [h.1, HN.out], h.2⟩)
  have LE := hide (fun n => show Calls Try.prog 24 #[.pointer (some ⟨b, 0, none⟩)] (wa.drewN n) fun e w' => e = .returned (.int .i64 ep) ∧ w' = wa.drewN n from (lepoch (Q1.out.drewN n)).mono fun _ _ h => ⟨h.1, h.2.symm⟩)
  go_quiet ((first | (go_at_call 21; exact Calls.quiet_of_same (LL.out _)) | (go_at_call 24; exact Calls.quiet_of_same (LE.out _)) | (go_at_call 19; exact Calls.quiet_of (LR.out _))))
  have H2 := hide (And.intro (only_drewN G1.out nq) (lholds lo hi (Q1.out.drewN nq)))
  have QQ := hide (Q1.out.drewN nq)
  have SS := hide (SW.out.keep (only_drewN (World.grownBy.refl _ _) nq))
  generalize wa.drewN nq = w3 at *
  clear b0 b1 b2 b3 b4 c0 c1 c2 c3 c4 LL LR LE hwr hd
  go_wp2_with fail
  go_loopg [15, 16] N (fun gg vis vi wr => ∃ i : Nat, i + gg = N ∧ wr = w3 ∧ vi = .int .i64 i ∧ ∃ is : Bool, vis = .bool is ∧ Hid (((s :: l).take i).any (fun x => inR lo hi x.pc) = is))
  case atStart => exact ⟨0, by omega, rfl, rfl, false, rfl, rfl⟩
  case round =>
    obtain ⟨i, hig, rfl, rfl, is, rfl, his⟩ := hrel
    by_cases hi' : i < N
    · obtain ⟨g', off', hge, -, -, c0, -⟩ := SS.out.at_ i (by rw [HN.out]; exact hi')
      injection hge with hge
      injection hge with hg1 hg2
      subst hg1 hg2
      have AN := hide (any_take_succ (fun x => inR lo hi x.pc) (s :: l) i (by rw [HN.out]; exact hi'))
      generalize ((s :: l)[i]'(by rw [HN.out]; exact hi')) = x at *
      have hlt : decide ((i : Int) < (N : Int)) = true := by simp; omega
      cases is
      · by_cases h1 : lo ≤ x.pc
        · by_cases h2 : x.pc < hi
          · have R := hide (show ((s :: l).take (i + 1)).any (fun x => inR lo hi x.pc) = true by rw [AN.out, his.out]; simp [inR, h1, h2])
            have d1 : decide (lo ≤ x.pc) = true := by simpa using h1
            have d2 : decide (x.pc < hi) = true := by simpa using h2
            go_wp2_with fail
            go_roundg (N - (i + 1))
            case measure => omega
            case rel => exact ⟨i + 1, by omega, rfl, by go_num, true, rfl, R.out⟩
          · have R := hide (show ((s :: l).take (i + 1)).any (fun x => inR lo hi x.pc) = false by rw [AN.out, his.out]; simp [inR, h2])
            have d1 : decide (lo ≤ x.pc) = true := by simpa using h1
            have d2 : decide (x.pc < hi) = false := by simpa using h2
            go_wp2_with fail
            go_roundg (N - (i + 1))
            case measure => omega
            case rel => exact ⟨i + 1, by omega, rfl, by go_num, false, rfl, R.out⟩
        · have R := hide (show ((s :: l).take (i + 1)).any (fun x => inR lo hi x.pc) = false by rw [AN.out, his.out]; simp [inR, h1])
          have d1 : decide (lo ≤ x.pc) = false := by simpa using h1
          go_wp2_with fail
          go_roundg (N - (i + 1))
          case measure => omega
          case rel => exact ⟨i + 1, by omega, rfl, by go_num, false, rfl, R.out⟩
      · have R := hide (show ((s :: l).take (i + 1)).any (fun x => inR lo hi x.pc) = true by rw [AN.out, his.out]; simp)
        go_wp2_with fail
        go_roundg (N - (i + 1))
        case measure => omega
        case rel => exact ⟨i + 1, by omega, rfl, by go_num, true, rfl, R.out⟩
    · have hlt : decide ((i : Int) < (N : Int)) = false := by simp; omega
      have E := hide (show (s :: l).any (fun x => inR lo hi x.pc) = is by
        have h := his.out
        rwa [List.take_of_length_le (by rw [HN.out]; omega)] at h)
      have H3 := hide (show Calls Try.prog 31 #[.pointer (some ⟨b, 0, none⟩), .int .u64 lo, .int .u64 hi] wr fun e w' => e = .returned (.bool is) ∧ ∃ k, w' = wr.drewN k from H2.out.2.mono fun _ _ h => ⟨by rw [h.1, E.out], h.2⟩)
      clear his
      go_wp2_with fail
      refine H3.out.mono ?_
      rintro e w4 ⟨rfl, k, rfl⟩
      simp only []
      go_wp2_with fail
      go_ret
      exact ⟨by simp, only_drewN H2.out.1 k, QQ.out.drewN k⟩
end Go.Proofs.Ytkjgklpdoomjcaa

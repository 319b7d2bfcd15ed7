/- CONTRACTS OF front.Front: Take, Turn; FrontFaults: the walk. -/
import Derived.Test.YtkjgklpdoomjcaaFrontB
import Derived.Deep.DeepCutAuto
import Derived.Deep.CutBlock
import Derived.Deep.LoopGhost
namespace Go.Proofs.Ytkjgklpdoomjcaa
open Go.RowKit
set_option linter.unusedVariables false
set_option linter.unusedSimpArgs false
set_option maxHeartbeats 3200000
section
variable {W w w' : World} {b qb pb : Nat} {pc : Int} {ended : Bool} {l : List S} {ep : Nat} {p : P}
theorem FS.keep2 (h : FS W w b qb pb pc ended l ep p) (g : Below w.heap.size w w') : FS W w' b qb pb pc ended l ep p :=
  h.keep ⟨g.os, g.tape, g.output, g.size, fun k hk _ => g.block k hk⟩
set_option maxRecDepth 100000 in
theorem ftake_yes {s : S} (h : FS W w b qb pb pc ended (s :: l) ep p) : Calls Try.prog 41 #[.pointer (some ⟨b, 0, none⟩)] w (FR (.tuple #[.agg #[.int .u64 s.pc, .int .u32 s.bits, .int .i64 s.fault, .int .u64 s.next, .int .i64 s.epoch], .bool true]) W b qb pb pc ended l ep p) := by
  have H := hide h
  have HQ := hide (lpop_yes (h.alloc (.cells #[.int .u64 0, .int .u32 0, .int .i64 0, .int .u64 0, .int .i64 0] 34)).ql)
  obtain ⟨f0, f1, f2, f3, f4, ff, fl⟩ := h.fa
  clear h
  go_enter Try.func41, Try.ntmps41
  go_wp2_with fail
  refine HQ.out.mono ?_
  rintro e w1 ⟨rfl, hg, hq⟩
  have hqlt := H.out.ql.lt
  have hplt := H.out.pa.lt
  obtain ⟨b0, b1, b2, b3, b4, bf, hz⟩ := box5 hg (fun e => by injection e with e; omega)
  have H1 := hide ((H.out.alloc (.cells #[.int .u64 0, .int .u32 0, .int .i64 0, .int .u64 0, .int .i64 0] 34)).queue hg hq)
  have c1 : w.heap.size ≠ b := by omega
  have c2 : w.heap.size ≠ qb := by omega
  have c3 : w.heap.size ≠ pb := by omega
  have c4 : W.heap.size ≤ w.heap.size := H.out.big
  have HF := hide (fun (v0 v1 v2 v3 v4 : Value) => ((((H1.out.box (o := 0) c1 c2 c3 c4 v0).box (o := 1) c1 c2 c3 c4 v1).box (o := 2) c1 c2 c3 c4 v2).box (o := 3) c1 c2 c3 c4 v3).box (o := 4) c1 c2 c3 c4 v4)
  clear hg hq hqlt hplt c1 c2 c3 c4 f0 f1 f2 f3 f4 ff fl
  simp only []
  repeat' (first | go_values | go_skip | go_guarded | go_step | go_upon)
  refine bodyPost_ret (v := .tuple #[.agg #[.int .u64 s.pc, .int .u32 s.bits, .int .i64 s.fault, .int .u64 s.next, .int .i64 s.epoch], .bool true]) (by simp [results, Try.results41, go_sem, b0, b1, b2, b3, b4, hz]) rfl ?_
  exact ⟨rfl, HF.out _ _ _ _ _⟩
set_option maxRecDepth 100000 in
theorem fturn (h : FS W w b qb pb pc ended l ep p) (tgt : Int) (he : ep ≤ 4294967296) : Calls Try.prog 42 #[.pointer (some ⟨b, 0, none⟩), .int .u64 tgt] w (FR (.tuple #[]) W b qb pb tgt false [] (ep + 1) { p with n := 0 }) := by
  have H := hide h
  have LQ := hide (lsquash h.ql he)
  have PQ := hide (fun (w2 : World) (hp : PAt w2 pb p) => psquash_any pb w2 p hp)
  obtain ⟨f0, f1, f2, f3, f4, ff, fl⟩ := h.fa
  clear h
  go_enter Try.func42, Try.ntmps42
  go_wp2_with fail
  refine LQ.out.mono ?_
  rintro e w1 ⟨rfl, hg, hq⟩
  have H1 := hide (H.out.queue hg hq)
  clear hg hq f0 f1 f2 f3 f4 ff fl
  obtain ⟨f0, f1, f2, f3, f4, ff, fl⟩ := H1.out.fa
  simp only []
  go_wp2_with fail
  refine (PQ.out _ H1.out.pa).mono ?_
  rintro e w2 ⟨rfl, hg, hp⟩
  have H2 := hide (H1.out.pred hg hp)
  clear hg hp f0 f1 f2 f3 f4 ff fl
  obtain ⟨f0, f1, f2, f3, f4, ff, fl⟩ := H2.out.fa
  have H3 := hide (H2.out.set tgt false)
  simp only []
  go_wp2
  go_end0
  exact ⟨rfl, H3.out⟩
end
theorem u64_in {n : Int} (h : (Lit.int .u64 n).wf = true) : 0 ≤ n ∧ n < 18446744073709551616 := by
  simp [Lit.wf] at h
  have h1 : IntKind.u64.min = 0 := by decide
  have h2 : IntKind.u64.max = 18446744073709551615 := by decide
  omega
theorem mod7 (n : Int) : ∃ N : Nat, N ≤ 6 ∧ wrap64 ((IntKind.u64.wrap n).tmod 7) = N := by
  refine ⟨((n % 18446744073709551616) % 7).toNat, by omega, ?_⟩
  rw [IntKind.wrap_u64, Int.tmod_eq_emod_of_nonneg (by omega)]
  unfold wrap64
  omega
theorem mod15 (n : Int) : ∃ N : Nat, 1 ≤ N ∧ wrap64 (1 + wrap64 ((IntKind.u64.wrap n).tmod 15)) = N := by
  refine ⟨1 + ((n % 18446744073709551616) % 15).toNat, by omega, ?_⟩
  rw [IntKind.wrap_u64, Int.tmod_eq_emod_of_nonneg (by omega)]
  unfold wrap64
  omega
theorem new_guess (seed pc : Int) : ((P.new seed).guess pc).2 = np pc := by
  unfold P.guess guessOf P.new
  simp
theorem np_in (pc : Int) : 0 ≤ np pc ∧ np pc < 18446744073709551616 := by
  unfold np
  rw [IntKind.wrap_u64]; omega
/-- Slots with these bits and no fault. -/
def Plain (bits : Int) (l : List S) : Prop := ∀ s ∈ l, s.fault = 0 ∧ s.bits = bits
theorem Plain.snoc {bits : Int} {l : List S} (h : Plain bits l) (a n e : Int) : Plain bits (l ++ [⟨a, bits, 0, n, e⟩]) := by
  intro s hs
  rcases List.mem_append.1 hs with k | k
  · exact h s k
  · simp at k; subst k; exact ⟨rfl, rfl⟩
set_option maxRecDepth 100000 in
theorem faults_walk (W : World) (seed : Int) (ws : (Lit.int .u64 seed).wf = true) (pc : Int) (wp : (Lit.int .u64 pc).wf = true) (ahead : Int) (_ : (Lit.int .i64 ahead).wf = true) (fault : Int) (_ : (Lit.int .i64 fault).wf = true) (bits : Int) (_ : (Lit.int .u32 bits).wf = true) (tgt : Int) (_ : (Lit.int .u64 tgt).wf = true) :
    Calls Try.prog 13 #[.int .u64 seed, .int .u64 pc, .int .i64 ahead, .int .i64 fault, .int .u32 bits, .int .u64 tgt] W fun e w' => e = .returned (.bool true) ∧ Below W.heap.size W w' := by
  obtain ⟨s0, s1⟩ := u64_in ws
  obtain ⟨p0, p1⟩ := u64_in wp
  obtain ⟨N, hN, eN⟩ := mod7 ahead
  obtain ⟨F, hF, eF⟩ := mod15 fault
  have NW := hide (fnew W seed pc s0 s1)
  have HN := hide eN
  have HF := hide eF
  clear eN eF ws wp
  go_enter Try.func13, Try.ntmps13
  go_wp2_with fail
  refine NW.out.mono ?_
  rintro e w1 ⟨b, qb, pb, rfl, hf⟩
  have H1 := hide hf
  clear hf
  simp only []
  go_wp2_with fail
  rw [HN.out, HF.out]
  refine (awake38 _).mono ?_
  rintro e w2 ⟨rfl, hb⟩
  have H2 := hide (H1.out.keep2 hb)
  clear hb
  simp only []
  go_wp2_with fail
  go_loopg [15, 16, 17, 18] N (fun g vi v16 v17 v18 wr => ∃ (i : Nat) (pv : Int) (l : List S), i + g = N ∧ vi = .int .i64 i ∧ 0 ≤ pv ∧ pv < 18446744073709551616 ∧ l.length = i ∧ Hid (FS W wr b qb pb pv false l 0 (P.new seed) ∧ Plain bits l))
  case atStart => exact ⟨0, pc, [], by omega, rfl, p0, p1, rfl, H2.out, fun s hs => by cases hs⟩
  case round =>
    obtain ⟨i, pv, l, hig, rfl, v0, v1, hl, hH⟩ := hrel
    by_cases hi : i < N
    · have WT := hide (fwant_yes hH.out.1 (by omega))
      have GT := hide (fun (w3 : World) (h : FS W w3 b qb pb pv false l 0 (P.new seed)) => fgot_ok h (by omega) bits v0 v1)
      go_wp2_with fail
      refine WT.out.mono ?_
      rintro e w3 ⟨rfl, hf⟩
      have G3 := hide (GT.out _ hf)
      clear hf
      simp only []
      go_wp2_with fail
      refine G3.out.mono ?_
      rintro e w4 ⟨rfl, hf⟩
      rw [new_guess] at hf
      have H4 := hide (show FS W w4 b qb pb (np pv) false (l ++ [⟨pv, bits, 0, np pv, 0⟩]) 0 (P.new seed) ∧ Plain bits (l ++ [⟨pv, bits, 0, np pv, 0⟩]) from ⟨hf, hH.out.2.snoc _ _ _⟩)
      clear hf
      simp only []
      go_wp2
      go_roundg (N - (i + 1))
      case measure => omega
      case rel => exact ⟨i + 1, np pv, _, by omega, by go_num, (np_in pv).1, (np_in pv).2, by simp [hl], H4⟩
    · have WT := hide (fwant_yes hH.out.1 (by omega))
      have GT := hide (fun (w3 : World) (h : FS W w3 b qb pb pv false l 0 (P.new seed)) => fgot_fault h (by omega) bits (F : Int) (by omega))
      have hiN : i = N := by omega
      go_wp2_with fail
      refine WT.out.mono ?_
      rintro e w3 ⟨rfl, hf⟩
      have G3 := hide (GT.out _ hf)
      clear hf
      simp only []
      go_wp2_with fail
      refine G3.out.mono ?_
      rintro e w4 ⟨rfl, hf⟩
      have H4 := hide hf
      clear hf
      simp only []
      go_wp2_with fail
      refine (fwant_no H4.out (.inl rfl)).mono ?_
      rintro e w5 ⟨rfl, hf⟩
      have H5 := hide hf
      clear hf
      simp only []
      go_wp2_with fail
      refine (fgot_no H5.out _ _ bits 0 (.inl (.inl rfl))).mono ?_
      rintro e w6 ⟨rfl, hf⟩
      have H6 := hide (show FS W w6 b qb pb (np pv) true (l ++ [⟨pv, 0, F, np pv, 0⟩]) 0 (P.new seed) ∧ Plain bits l from ⟨hf, hH.out.2⟩)
      clear hf H4 H5 hH
      simp only []
      have hnp : IntKind.u64.wrap (pv + 4) = np pv := rfl
      have hlN : l.length = N := by omega
      subst hiN
      clear hi hl hig NW H1 H2 WT GT G3
      go_wp2_with fail
      go_loopg [25, 26, 27] i (fun g vj v26 v27 wr => ∃ (j : Nat) (m : List S), j + g = i ∧ vj = .int .i64 j ∧ m.length = g ∧ Hid (FS W wr b qb pb (np pv) true (m ++ [⟨pv, 0, F, np pv, 0⟩]) 0 (P.new seed) ∧ Plain bits m))
      case atStart => exact ⟨0, l, by omega, rfl, hlN, H6.out⟩
      case round =>
        obtain ⟨j, m, hjg, rfl, hm, hH⟩ := hrel
        clear H6
        by_cases hj : j < i
        · rcases m with _ | ⟨s, m⟩
          · simp at hm; omega
          · obtain ⟨e1, e2⟩ := hH.out.2 s (by simp)
            obtain ⟨sa, sb, sf, sn, se⟩ := s
            simp only [] at e1 e2
            subst e1 e2
            have TK := hide (ftake_yes (show FS W wr b qb pb (np pv) true (⟨sa, sb, 0, sn, se⟩ :: (m ++ [⟨pv, 0, F, np pv, 0⟩])) 0 (P.new seed) from hH.out.1))
            have PL := hide (show Plain sb m from fun s hs => hH.out.2 s (by simp [hs]))
            have hm2 : m.length = gk - 1 := by simp at hm; omega
            clear hm hH
            go_wp2_with fail
            refine TK.out.mono ?_
            rintro e w7 ⟨rfl, hf⟩
            have H7 := hide hf
            clear hf
            simp only []
            go_wp2
            go_roundg (i - (j + 1))
            case measure => omega
            case rel => exact ⟨j + 1, m, by omega, by go_num, by omega, H7.out.alloc _, PL.out⟩
        · have hm0 : m = [] := by
            cases m with
            | nil => rfl
            | cons a t => simp at hm; omega
          subst hm0
          have TK := hide (ftake_yes (show FS W wr b qb pb (np pv) true (⟨pv, 0, F, np pv, 0⟩ :: []) 0 (P.new seed) from hH.out.1))
          have hji : j = i := by omega
          clear hm hH hjg
          have q1 : ∀ n : Int, (n != n) = false := fun n => by simp
          have w01 : wrap64 (0 + 1) = 1 := by unfold wrap64; omega
          go_wp2_with fail
          refine TK.out.mono ?_
          rintro e w7 ⟨rfl, hf⟩
          have H7 := hide hf
          clear hf
          simp only []
          go_wp2_with fail
          refine (fwant_no (H7.out.alloc _) (.inl rfl)).mono ?_
          rintro e w8 ⟨rfl, hf⟩
          have H8 := hide hf
          clear hf
          simp only []
          go_wp2_with fail
          refine (fturn H8.out tgt (by omega)).mono ?_
          rintro e w9 ⟨rfl, hf⟩
          have H9 := hide hf
          clear hf
          simp only []
          go_wp2_with fail
          refine (fwant_yes H9.out (by simp)).mono ?_
          rintro e w10 ⟨rfl, hf⟩
          have H10 := hide hf
          clear hf
          simp only []
          go_wp2_with fail
          go_ret
          exact ⟨rfl, H10.out.bel⟩
end Go.Proofs.Ytkjgklpdoomjcaa


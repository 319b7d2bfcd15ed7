/- FrontPaths: the walk. -/
import Derived.Test.YtkjgklpdoomjcaaFrontE
namespace Go.Proofs.Ytkjgklpdoomjcaa
open Go.RowKit
set_option linter.unusedVariables false
set_option linter.unusedSimpArgs false
set_option maxHeartbeats 40000000
theorem keepc {w : World} {p : Addr} {v : Value} (hb : p.block < w.heap.size) (hc : w.cell? p = some v) : Hid (∀ W, Below w.heap.size w W → W.cell? p = some v) := fun W h => (h.cell hb).trans hc
theorem td9 (i m : Nat) (h : m = i / 9) : (i : Int).tdiv 9 = (m : Int) := by
  subst h
  rw [Int.tdiv_eq_ediv_of_nonneg (by omega)]; omega
theorem tm9 (i : Nat) (h : i % 9 = 8) : ((i : Int) % 9 == 8) = true := beq_iff_eq.2 (by omega)
theorem tn9 (i : Nat) (h : ¬ i % 9 = 8) : ((i : Int) % 9 == 8) = false := beq_eq_false_iff_ne.2 (by omega)
theorem lm9 (i n : Nat) (h : i / 9 < n) : decide ((i : Int) / 9 < (n : Int)) = true := decide_eq_true (by omega)
theorem ln9 (i n : Nat) (h : ¬ i / 9 < n) : decide ((i : Int) / 9 < (n : Int)) = false := decide_eq_false (by omega)
theorem tw9 (m : Nat) (h : m ≤ 100) : wrap64 (m : Int) = (m : Int) := by unfold wrap64; omega
/-- Behind the word that was brought, or not. -/
def Next (W w : World) (b qb pb : Nat) (a : Int) (ep : Nat) (p : P) : Prop := ∃ L pc, FS W w b qb pb pc false L ep p ∧ Path ep a L pc ∧ 1 ≤ L.length ∧ In64 pc
set_option maxRecDepth 100000 in
theorem paths_walk (W : World) (seed : Int) (ws : (Lit.int .u64 seed).wf = true) (pc : Int) (wp : (Lit.int .u64 pc).wf = true)
    (aj : Option Addr) (lj cj : Nat) (hlj : lj ≤ 9223372036854775807) (hj : RowOf W aj lj 6 J.l J.wf)
    (au : Option Addr) (lu cu : Nat) (z : Nat → Int) (hlu : lu ≤ 9223372036854775807) (hu : IntRow .u64 W au lu z)
    (ak : Option Addr) (lk ck : Nat) (hlk : lk ≤ 9223372036854775807) (hk : RowOf W ak lk 1 (fun o : Bool => [.bool o]) (fun _ => True)) :
    Calls Try.prog 14 #[.int .u64 seed, .int .u64 pc, .slice aj lj cj, .slice au lu cu, .slice ak lk ck] W fun e w' => e = .returned (.bool true) ∧ Below W.heap.size W w' := by
  obtain ⟨s0, s1⟩ := u64_in ws
  obtain ⟨p0, p1⟩ := u64_in wp
  have NW := hide (fnew W seed pc s0 s1)
  have HJ := hide hj
  have HU := hide hu
  have HK := hide hk
  clear hj hu hk ws wp
  have q' : ∀ n : Int, (n != n) = false := fun n => by simp
  go_enter Try.func14, Try.ntmps14
  go_wp2_with fail
  refine (NW.out).mono ?_
  rintro e w9 ⟨b, qb, pb, rfl, hf⟩
  have H1 := hide hf
  clear hf
  simp only []
  go_wp2_with fail
  refine (awake38 _).mono ?_
  rintro e w9 ⟨rfl, hb⟩
  have H2 := hide (H1.out.keep2 hb)
  clear hb H1
  simp only []
  go_wp2_with fail
  go_loopg [12, 13, 14, 15, 16, 17, 18] 100 (fun g va vi v14 v15 v16 v17 v18 wr => ∃ (i : Nat) (a pv : Int) (l : List S) (ep : Nat) (p : P), Hid (i + g = 100) ∧ i ≤ 100 ∧ va = .int .u64 a ∧ vi = .int .i64 i ∧ ep ≤ i ∧ Hid (FS W wr b qb pb pv false l ep p ∧ PW p ∧ Path ep a l pv ∧ In64 pv))
  case atStart => exact ⟨0, pc, pc, [], 0, P.new seed, by unfold Hid; omega, by omega, rfl, rfl, by omega, H2.out, PW.new seed, rfl, p0, p1⟩
  case round =>
    obtain ⟨i, a, pv, l, ep, p, hig, hi100, rfl, rfl, hep, hQ⟩ := hrel
    clear H2
    by_cases h100 : i < 100
    · by_cases hjl : i < lj
      · obtain ⟨bj, oj, j, rfl, hbj, hwj, hcj⟩ := HJ.out i hjl
        have jc : ∀ k, k < 6 → wr.cell? ⟨bj, oj + i * 6 + k, .none⟩ = (J.l j)[k]? := fun k hk => (hQ.out.1.bel.cell hbj).trans (hcj k hk)
        have c0 : wr.cell? ⟨bj, oj + i * 6, .none⟩ = some (.int .u64 j.pc) := jc 0 (by omega)
        have c1 : wr.cell? ⟨bj, oj + i * 6 + 1, .none⟩ = some (.bool j.call) := jc 1 (by omega)
        have c2 : wr.cell? ⟨bj, oj + i * 6 + 2, .none⟩ = some (.bool j.ret) := jc 2 (by omega)
        have c3 : wr.cell? ⟨bj, oj + i * 6 + 3, .none⟩ = some (.bool j.cond) := jc 3 (by omega)
        have c4 : wr.cell? ⟨bj, oj + i * 6 + 4, .none⟩ = some (.bool j.taken) := jc 4 (by omega)
        have c5 : wr.cell? ⟨bj, oj + i * 6 + 5, .none⟩ = some (.int .u64 j.target) := jc 5 (by omega)
        obtain ⟨j0, j1⟩ := u64_in hwj.1
        have PP := hide (hQ.out.2.1.learn j (u64_in hwj.2))
        have LL := hide (flearn hQ.out.1 j j0 j1)
        have hQ2 := hide hQ.out.2.2
        clear jc hcj hwj hQ
        go_wp2_with fail
        refine (LL.out).mono ?_
        rintro e w9 ⟨rfl, hf⟩
        have H3 := hide hf
        clear hf c0 c1 c2 c3 c4 c5 LL
        generalize p.learn j = p2 at *
        simp only []
        have PW2 := hide (show PW p2 from PP.out)
        clear PP
        by_cases hroom : l.length < 8
        · have WT := hide (fwant_yes H3.out hroom)
          have GT := hide (fun (w3 : World) (bits : Int) (h : FS W w3 b qb pb pv false l ep p2) => fgot_ok h hroom bits hQ2.out.2.1 hQ2.out.2.2)
          have NXT := hide (fun (w3 : World) (bits : Int) (h : FS W w3 b qb pb (p2.guess pv).2 false (l ++ [⟨pv, bits, 0, (p2.guess pv).2, ep⟩]) ep p2) => show Next W w3 b qb pb a ep p2 from ⟨_, _, h, hQ2.out.1.snoc bits 0 _, by simp, PW2.out.guess pv⟩)
          go_wp2_with fail
          refine (WT.out).mono ?_
          rintro e w9 ⟨rfl, hf⟩
          have G3 := hide (fun bits => GT.out _ bits hf)
          clear hf
          simp only []
          go_wp2_with fail
          refine (G3.out _).mono ?_
          rintro e w9 ⟨rfl, hf⟩
          have NX := hide (NXT.out _ _ hf)
          clear hf G3 GT WT NXT H3 hQ2
          simp only []
          obtain ⟨L, pn, hf4, pt4, hL, hin⟩ := NX.out
          have H4 := hide hf4
          have PT := hide pt4
          have IN := hide hin
          clear hf4 pt4 hin NX
          by_cases hk : i < lk
          · obtain ⟨bk, ok', tk, rfl, hbk, -, hck⟩ := HK.out i hk
            have ck2 := (keepc hbk (show W.cell? ⟨bk, ok' + i, .none⟩ = some (.bool tk) by have := hck 0 (by omega); simpa using this)).out _ H4.out.bel
            have dk : decide ((i : Int) < lk) = true := decide_eq_true (by omega)
            clear hck
            cases tk
            · -- not taken
              by_cases h8 : i % 9 = 8
              · have t8 := tm9 i h8
                have r8 : (i : Int) % 9 = 8 := by omega
                clear h8
                by_cases hm : i / 9 < lu
                · obtain ⟨bu, ou, rfl, hbu, hcu, hwu⟩ := HU.out (i / 9) hm
                  obtain ⟨z0, z1⟩ := u64_in hwu
                  have cu2 := (keepc hbu hcu).out _ H4.out.bel
                  have dm := lm9 i lu hm
                  have dm1 : (0 : Int) ≤ (i : Int) / 9 := by omega
                  have dm2 : (i : Int) / 9 < (lu : Int) := of_decide_eq_true dm
                  clear hcu hwu hm
                  obtain ⟨zz, hzz⟩ : ∃ zz, zz = z (i / 9) := ⟨_, rfl⟩
                  rw [← hzz] at z0 z1 cu2
                  clear hzz
                  have TU := hide (fturn H4.out zz (by omega))
                  have GN := hide (fun (w3 : World) (h : FS W w3 b qb pb zz false [] (ep + 1) { p2 with n := 0 }) => fgot_no h (pv) ((ep : Int)) 7 0 (.inr ⟨rfl, by simp, by
                    by_cases hz : zz = pv
                    · exact .inr ⟨hz, by omega⟩
                    · exact .inl hz⟩))
                  go_wp2_with fail
                  refine (TU.out).mono ?_
                  rintro e w9 ⟨rfl, hf⟩
                  have G8 := hide (GN.out _ hf)
                  clear hf cu2 TU GN
                  simp only []
                  go_wp2_with fail
                  refine (G8.out).mono ?_
                  rintro e w9 ⟨rfl, hf⟩
                  have H9 := hide hf
                  have PS := hide (PW.squash PW2.out)
                  clear hf G8
                  simp only []
                  go_wp2
                  go_roundg (100 - (i + 1))
                  case measure => (try clear td); have := hig.out; omega
                  case rel => (try clear td); exact ⟨i + 1, zz, _, _, ep + 1, _, by unfold Hid; have := hig.out; omega, by omega, by go_num, by go_num, by omega, H9.out, PS.out, rfl, z0, z1⟩
                · have dm := ln9 i lu hm
                  have dm2 : ¬ ((i : Int) / 9 < (lu : Int)) := of_decide_eq_false dm
                  clear hm
                  go_wp2
                  go_roundg (100 - (i + 1))
                  case measure => (try clear td); have := hig.out; omega
                  case rel => (try clear td); exact ⟨i + 1, a, _, _, ep, _, by unfold Hid; have := hig.out; omega, by omega, by go_num, by go_num, by omega, H4.out, PW2.out, PT.out, IN.out⟩
              · have t8 := tn9 i h8
                have r8 : ¬ ((i : Int) % 9 = 8) := by omega
                clear h8
                go_wp2
                go_roundg (100 - (i + 1))
                case measure => (try clear td); have := hig.out; omega
                case rel => (try clear td); exact ⟨i + 1, a, _, _, ep, _, by unfold Hid; have := hig.out; omega, by omega, by go_num, by go_num, by omega, H4.out, PW2.out, PT.out, IN.out⟩
            · rcases L with _ | ⟨s, L⟩
              · simp at hL
              · obtain ⟨e1, e2, pt5⟩ := PT.out
                obtain ⟨sa, sb, sf, sn, se⟩ := s
                simp only [] at e1 e2 pt5
                subst e1 e2
                have P5 := hide pt5
                clear pt5 PT
                go_wp2_with fail
                refine (ftake_yes H4.out).mono ?_
                rintro e w9 ⟨rfl, hf⟩
                have H5 := hide hf
                clear hf ck2
                simp only []
                have H5a := hide (H5.out.alloc (.cells #[.int .u64 sa, .int .u32 sb, .int .i64 sf, .int .u64 sn, .int .i64 ep] 34))
                have EP := hide (fun n : Nat => fepoch (H5a.out.drewN n))
                go_wp2_with fail
                go_quiet ((go_at_call 44; exact Calls.quiet_of_same (EP.out _)))
                have H6 := hide (H5a.out.drewN nq)
                have bx : World.cell? (World.drewN (World.alloc w9 (.cells #[.int .u64 sa, .int .u32 sb, .int .i64 sf, .int .u64 sn, .int .i64 ep] 34)) nq) ⟨w9.heap.size, 3, .none⟩ = some (.int .u64 sn) := by
                  show World.cell? (World.alloc w9 _) _ = _
                  rw [World.cell?_alloc_new]; rfl
                generalize World.drewN (World.alloc w9 (.cells #[.int .u64 sa, .int .u32 sb, .int .i64 sf, .int .u64 sn, .int .i64 ep] 34)) nq = wq at *
                clear H5 H5a EP H4
                by_cases h8 : i % 9 = 8
                · have t8 := tm9 i h8
                  have r8 : (i : Int) % 9 = 8 := by omega
                  clear h8
                  by_cases hm : i / 9 < lu
                  · obtain ⟨bu, ou, rfl, hbu, hcu, hwu⟩ := HU.out (i / 9) hm
                    obtain ⟨z0, z1⟩ := u64_in hwu
                    have cu2 := (keepc hbu hcu).out _ H6.out.bel
                    have dm := lm9 i lu hm
                    have dm1 : (0 : Int) ≤ (i : Int) / 9 := by omega
                    have dm2 : (i : Int) / 9 < (lu : Int) := of_decide_eq_true dm
                    clear hcu hwu hm
                    obtain ⟨zz, hzz⟩ : ∃ zz, zz = z (i / 9) := ⟨_, rfl⟩
                    rw [← hzz] at z0 z1 cu2
                    clear hzz
                    have TU := hide (fturn H6.out zz (by omega))
                    have GN := hide (fun (w3 : World) (h : FS W w3 b qb pb zz false [] (ep + 1) { p2 with n := 0 }) => fgot_no h (pv) ((ep : Int)) 7 0 (.inr ⟨rfl, by simp, by
                      by_cases hz : zz = pv
                      · exact .inr ⟨hz, by omega⟩
                      · exact .inl hz⟩))
                    go_wp2_with fail
                    refine (TU.out).mono ?_
                    rintro e w9 ⟨rfl, hf⟩
                    have G8 := hide (GN.out _ hf)
                    clear hf cu2 TU GN
                    simp only []
                    go_wp2_with fail
                    refine (G8.out).mono ?_
                    rintro e w9 ⟨rfl, hf⟩
                    have H9 := hide hf
                    have PS := hide (PW.squash PW2.out)
                    clear hf G8
                    simp only []
                    go_wp2
                    go_roundg (100 - (i + 1))
                    case measure => (try clear td); have := hig.out; omega
                    case rel => (try clear td); exact ⟨i + 1, zz, _, _, ep + 1, _, by unfold Hid; have := hig.out; omega, by omega, by go_num, by go_num, by omega, H9.out, PS.out, rfl, z0, z1⟩
                  · have dm := ln9 i lu hm
                    have dm2 : ¬ ((i : Int) / 9 < (lu : Int)) := of_decide_eq_false dm
                    clear hm
                    go_wp2
                    go_roundg (100 - (i + 1))
                    case measure => (try clear td); have := hig.out; omega
                    case rel => (try clear td); exact ⟨i + 1, sn, _, _, ep, _, by unfold Hid; have := hig.out; omega, by omega, by go_num, by go_num, by omega, H6.out, PW2.out, P5.out, IN.out⟩
                · have t8 := tn9 i h8
                  have r8 : ¬ ((i : Int) % 9 = 8) := by omega
                  clear h8
                  go_wp2
                  go_roundg (100 - (i + 1))
                  case measure => (try clear td); have := hig.out; omega
                  case rel => (try clear td); exact ⟨i + 1, sn, _, _, ep, _, by unfold Hid; have := hig.out; omega, by omega, by go_num, by go_num, by omega, H6.out, PW2.out, P5.out, IN.out⟩
          · have dk : decide ((i : Int) < lk) = false := decide_eq_false (by omega)
            by_cases h8 : i % 9 = 8
            · have t8 := tm9 i h8
              have r8 : (i : Int) % 9 = 8 := by omega
              clear h8
              by_cases hm : i / 9 < lu
              · obtain ⟨bu, ou, rfl, hbu, hcu, hwu⟩ := HU.out (i / 9) hm
                obtain ⟨z0, z1⟩ := u64_in hwu
                have cu2 := (keepc hbu hcu).out _ H4.out.bel
                have dm := lm9 i lu hm
                have dm1 : (0 : Int) ≤ (i : Int) / 9 := by omega
                have dm2 : (i : Int) / 9 < (lu : Int) := of_decide_eq_true dm
                clear hcu hwu hm
                obtain ⟨zz, hzz⟩ : ∃ zz, zz = z (i / 9) := ⟨_, rfl⟩
                rw [← hzz] at z0 z1 cu2
                clear hzz
                have TU := hide (fturn H4.out zz (by omega))
                have GN := hide (fun (w3 : World) (h : FS W w3 b qb pb zz false [] (ep + 1) { p2 with n := 0 }) => fgot_no h (pv) ((ep : Int)) 7 0 (.inr ⟨rfl, by simp, by
                  by_cases hz : zz = pv
                  · exact .inr ⟨hz, by omega⟩
                  · exact .inl hz⟩))
                go_wp2_with fail
                refine (TU.out).mono ?_
                rintro e w9 ⟨rfl, hf⟩
                have G8 := hide (GN.out _ hf)
                clear hf cu2 TU GN
                simp only []
                go_wp2_with fail
                refine (G8.out).mono ?_
                rintro e w9 ⟨rfl, hf⟩
                have H9 := hide hf
                have PS := hide (PW.squash PW2.out)
                clear hf G8
                simp only []
                go_wp2
                go_roundg (100 - (i + 1))
                case measure => (try clear td); have := hig.out; omega
                case rel => (try clear td); exact ⟨i + 1, zz, _, _, ep + 1, _, by unfold Hid; have := hig.out; omega, by omega, by go_num, by go_num, by omega, H9.out, PS.out, rfl, z0, z1⟩
              · have dm := ln9 i lu hm
                have dm2 : ¬ ((i : Int) / 9 < (lu : Int)) := of_decide_eq_false dm
                clear hm
                go_wp2
                go_roundg (100 - (i + 1))
                case measure => (try clear td); have := hig.out; omega
                case rel => (try clear td); exact ⟨i + 1, a, _, _, ep, _, by unfold Hid; have := hig.out; omega, by omega, by go_num, by go_num, by omega, H4.out, PW2.out, PT.out, IN.out⟩
            · have t8 := tn9 i h8
              have r8 : ¬ ((i : Int) % 9 = 8) := by omega
              clear h8
              go_wp2
              go_roundg (100 - (i + 1))
              case measure => (try clear td); have := hig.out; omega
              case rel => (try clear td); exact ⟨i + 1, a, _, _, ep, _, by unfold Hid; have := hig.out; omega, by omega, by go_num, by go_num, by omega, H4.out, PW2.out, PT.out, IN.out⟩
        · have hlen := H3.out.len
          have WT := hide (fwant_no H3.out (.inr ⟨rfl, by omega⟩))
          have NXT := hide (fun (w3 : World) (h : FS W w3 b qb pb pv false l ep p2) => show Next W w3 b qb pb a ep p2 from ⟨_, _, h, hQ2.out.1, by omega, hQ2.out.2⟩)
          go_wp2_with fail
          refine (WT.out).mono ?_
          rintro e w9 ⟨rfl, hf⟩
          have NX := hide (NXT.out _ hf)
          clear hf WT NXT H3 hQ2
          simp only []
          obtain ⟨L, pn, hf4, pt4, hL, hin⟩ := NX.out
          have H4 := hide hf4
          have PT := hide pt4
          have IN := hide hin
          clear hf4 pt4 hin NX
          by_cases hk : i < lk
          · obtain ⟨bk, ok', tk, rfl, hbk, -, hck⟩ := HK.out i hk
            have ck2 := (keepc hbk (show W.cell? ⟨bk, ok' + i, .none⟩ = some (.bool tk) by have := hck 0 (by omega); simpa using this)).out _ H4.out.bel
            have dk : decide ((i : Int) < lk) = true := decide_eq_true (by omega)
            clear hck
            cases tk
            · -- not taken
              by_cases h8 : i % 9 = 8
              · have t8 := tm9 i h8
                have r8 : (i : Int) % 9 = 8 := by omega
                clear h8
                by_cases hm : i / 9 < lu
                · obtain ⟨bu, ou, rfl, hbu, hcu, hwu⟩ := HU.out (i / 9) hm
                  obtain ⟨z0, z1⟩ := u64_in hwu
                  have cu2 := (keepc hbu hcu).out _ H4.out.bel
                  have dm := lm9 i lu hm
                  have dm1 : (0 : Int) ≤ (i : Int) / 9 := by omega
                  have dm2 : (i : Int) / 9 < (lu : Int) := of_decide_eq_true dm
                  clear hcu hwu hm
                  obtain ⟨zz, hzz⟩ : ∃ zz, zz = z (i / 9) := ⟨_, rfl⟩
                  rw [← hzz] at z0 z1 cu2
                  clear hzz
                  have TU := hide (fturn H4.out zz (by omega))
                  have GN := hide (fun (w3 : World) (h : FS W w3 b qb pb zz false [] (ep + 1) { p2 with n := 0 }) => fgot_no h (0) (0) 7 0 (.inr ⟨rfl, by simp, by
                    by_cases hz : zz = 0
                    · exact .inr ⟨hz, by omega⟩
                    · exact .inl hz⟩))
                  go_wp2_with fail
                  refine (TU.out).mono ?_
                  rintro e w9 ⟨rfl, hf⟩
                  have G8 := hide (GN.out _ hf)
                  clear hf cu2 TU GN
                  simp only []
                  go_wp2_with fail
                  refine (G8.out).mono ?_
                  rintro e w9 ⟨rfl, hf⟩
                  have H9 := hide hf
                  have PS := hide (PW.squash PW2.out)
                  clear hf G8
                  simp only []
                  go_wp2
                  go_roundg (100 - (i + 1))
                  case measure => (try clear td); have := hig.out; omega
                  case rel => (try clear td); exact ⟨i + 1, zz, _, _, ep + 1, _, by unfold Hid; have := hig.out; omega, by omega, by go_num, by go_num, by omega, H9.out, PS.out, rfl, z0, z1⟩
                · have dm := ln9 i lu hm
                  have dm2 : ¬ ((i : Int) / 9 < (lu : Int)) := of_decide_eq_false dm
                  clear hm
                  go_wp2
                  go_roundg (100 - (i + 1))
                  case measure => (try clear td); have := hig.out; omega
                  case rel => (try clear td); exact ⟨i + 1, a, _, _, ep, _, by unfold Hid; have := hig.out; omega, by omega, by go_num, by go_num, by omega, H4.out, PW2.out, PT.out, IN.out⟩
              · have t8 := tn9 i h8
                have r8 : ¬ ((i : Int) % 9 = 8) := by omega
                clear h8
                go_wp2
                go_roundg (100 - (i + 1))
                case measure => (try clear td); have := hig.out; omega
                case rel => (try clear td); exact ⟨i + 1, a, _, _, ep, _, by unfold Hid; have := hig.out; omega, by omega, by go_num, by go_num, by omega, H4.out, PW2.out, PT.out, IN.out⟩
            · rcases L with _ | ⟨s, L⟩
              · simp at hL
              · obtain ⟨e1, e2, pt5⟩ := PT.out
                obtain ⟨sa, sb, sf, sn, se⟩ := s
                simp only [] at e1 e2 pt5
                subst e1 e2
                have P5 := hide pt5
                clear pt5 PT
                go_wp2_with fail
                refine (ftake_yes H4.out).mono ?_
                rintro e w9 ⟨rfl, hf⟩
                have H5 := hide hf
                clear hf ck2
                simp only []
                have H5a := hide (H5.out.alloc (.cells #[.int .u64 sa, .int .u32 sb, .int .i64 sf, .int .u64 sn, .int .i64 ep] 34))
                have EP := hide (fun n : Nat => fepoch (H5a.out.drewN n))
                go_wp2_with fail
                go_quiet ((go_at_call 44; exact Calls.quiet_of_same (EP.out _)))
                have H6 := hide (H5a.out.drewN nq)
                have bx : World.cell? (World.drewN (World.alloc w9 (.cells #[.int .u64 sa, .int .u32 sb, .int .i64 sf, .int .u64 sn, .int .i64 ep] 34)) nq) ⟨w9.heap.size, 3, .none⟩ = some (.int .u64 sn) := by
                  show World.cell? (World.alloc w9 _) _ = _
                  rw [World.cell?_alloc_new]; rfl
                generalize World.drewN (World.alloc w9 (.cells #[.int .u64 sa, .int .u32 sb, .int .i64 sf, .int .u64 sn, .int .i64 ep] 34)) nq = wq at *
                clear H5 H5a EP H4
                by_cases h8 : i % 9 = 8
                · have t8 := tm9 i h8
                  have r8 : (i : Int) % 9 = 8 := by omega
                  clear h8
                  by_cases hm : i / 9 < lu
                  · obtain ⟨bu, ou, rfl, hbu, hcu, hwu⟩ := HU.out (i / 9) hm
                    obtain ⟨z0, z1⟩ := u64_in hwu
                    have cu2 := (keepc hbu hcu).out _ H6.out.bel
                    have dm := lm9 i lu hm
                    have dm1 : (0 : Int) ≤ (i : Int) / 9 := by omega
                    have dm2 : (i : Int) / 9 < (lu : Int) := of_decide_eq_true dm
                    clear hcu hwu hm
                    obtain ⟨zz, hzz⟩ : ∃ zz, zz = z (i / 9) := ⟨_, rfl⟩
                    rw [← hzz] at z0 z1 cu2
                    clear hzz
                    have TU := hide (fturn H6.out zz (by omega))
                    have GN := hide (fun (w3 : World) (h : FS W w3 b qb pb zz false [] (ep + 1) { p2 with n := 0 }) => fgot_no h (0) (0) 7 0 (.inr ⟨rfl, by simp, by
                      by_cases hz : zz = 0
                      · exact .inr ⟨hz, by omega⟩
                      · exact .inl hz⟩))
                    go_wp2_with fail
                    refine (TU.out).mono ?_
                    rintro e w9 ⟨rfl, hf⟩
                    have G8 := hide (GN.out _ hf)
                    clear hf cu2 TU GN
                    simp only []
                    go_wp2_with fail
                    refine (G8.out).mono ?_
                    rintro e w9 ⟨rfl, hf⟩
                    have H9 := hide hf
                    have PS := hide (PW.squash PW2.out)
                    clear hf G8
                    simp only []
                    go_wp2
                    go_roundg (100 - (i + 1))
                    case measure => (try clear td); have := hig.out; omega
                    case rel => (try clear td); exact ⟨i + 1, zz, _, _, ep + 1, _, by unfold Hid; have := hig.out; omega, by omega, by go_num, by go_num, by omega, H9.out, PS.out, rfl, z0, z1⟩
                  · have dm := ln9 i lu hm
                    have dm2 : ¬ ((i : Int) / 9 < (lu : Int)) := of_decide_eq_false dm
                    clear hm
                    go_wp2
                    go_roundg (100 - (i + 1))
                    case measure => (try clear td); have := hig.out; omega
                    case rel => (try clear td); exact ⟨i + 1, sn, _, _, ep, _, by unfold Hid; have := hig.out; omega, by omega, by go_num, by go_num, by omega, H6.out, PW2.out, P5.out, IN.out⟩
                · have t8 := tn9 i h8
                  have r8 : ¬ ((i : Int) % 9 = 8) := by omega
                  clear h8
                  go_wp2
                  go_roundg (100 - (i + 1))
                  case measure => (try clear td); have := hig.out; omega
                  case rel => (try clear td); exact ⟨i + 1, sn, _, _, ep, _, by unfold Hid; have := hig.out; omega, by omega, by go_num, by go_num, by omega, H6.out, PW2.out, P5.out, IN.out⟩
          · have dk : decide ((i : Int) < lk) = false := decide_eq_false (by omega)
            by_cases h8 : i % 9 = 8
            · have t8 := tm9 i h8
              have r8 : (i : Int) % 9 = 8 := by omega
              clear h8
              by_cases hm : i / 9 < lu
              · obtain ⟨bu, ou, rfl, hbu, hcu, hwu⟩ := HU.out (i / 9) hm
                obtain ⟨z0, z1⟩ := u64_in hwu
                have cu2 := (keepc hbu hcu).out _ H4.out.bel
                have dm := lm9 i lu hm
                have dm1 : (0 : Int) ≤ (i : Int) / 9 := by omega
                have dm2 : (i : Int) / 9 < (lu : Int) := of_decide_eq_true dm
                clear hcu hwu hm
                obtain ⟨zz, hzz⟩ : ∃ zz, zz = z (i / 9) := ⟨_, rfl⟩
                rw [← hzz] at z0 z1 cu2
                clear hzz
                have TU := hide (fturn H4.out zz (by omega))
                have GN := hide (fun (w3 : World) (h : FS W w3 b qb pb zz false [] (ep + 1) { p2 with n := 0 }) => fgot_no h (0) (0) 7 0 (.inr ⟨rfl, by simp, by
                  by_cases hz : zz = 0
                  · exact .inr ⟨hz, by omega⟩
                  · exact .inl hz⟩))
                go_wp2_with fail
                refine (TU.out).mono ?_
                rintro e w9 ⟨rfl, hf⟩
                have G8 := hide (GN.out _ hf)
                clear hf cu2 TU GN
                simp only []
                go_wp2_with fail
                refine (G8.out).mono ?_
                rintro e w9 ⟨rfl, hf⟩
                have H9 := hide hf
                have PS := hide (PW.squash PW2.out)
                clear hf G8
                simp only []
                go_wp2
                go_roundg (100 - (i + 1))
                case measure => (try clear td); have := hig.out; omega
                case rel => (try clear td); exact ⟨i + 1, zz, _, _, ep + 1, _, by unfold Hid; have := hig.out; omega, by omega, by go_num, by go_num, by omega, H9.out, PS.out, rfl, z0, z1⟩
              · have dm := ln9 i lu hm
                have dm2 : ¬ ((i : Int) / 9 < (lu : Int)) := of_decide_eq_false dm
                clear hm
                go_wp2
                go_roundg (100 - (i + 1))
                case measure => (try clear td); have := hig.out; omega
                case rel => (try clear td); exact ⟨i + 1, a, _, _, ep, _, by unfold Hid; have := hig.out; omega, by omega, by go_num, by go_num, by omega, H4.out, PW2.out, PT.out, IN.out⟩
            · have t8 := tn9 i h8
              have r8 : ¬ ((i : Int) % 9 = 8) := by omega
              clear h8
              go_wp2
              go_roundg (100 - (i + 1))
              case measure => (try clear td); have := hig.out; omega
              case rel => (try clear td); exact ⟨i + 1, a, _, _, ep, _, by unfold Hid; have := hig.out; omega, by omega, by go_num, by go_num, by omega, H4.out, PW2.out, PT.out, IN.out⟩
      · have dj : decide ((i : Int) < lj) = false := decide_eq_false (by omega)
        have H3 := hide hQ.out.1
        have PP := hide hQ.out.2.1
        have hQ2 := hide hQ.out.2.2
        clear hQ
        generalize p = p2 at *
        have PW2 := hide (show PW p2 from PP.out)
        clear PP
        by_cases hroom : l.length < 8
        · have WT := hide (fwant_yes H3.out hroom)
          have GT := hide (fun (w3 : World) (bits : Int) (h : FS W w3 b qb pb pv false l ep p2) => fgot_ok h hroom bits hQ2.out.2.1 hQ2.out.2.2)
          have NXT := hide (fun (w3 : World) (bits : Int) (h : FS W w3 b qb pb (p2.guess pv).2 false (l ++ [⟨pv, bits, 0, (p2.guess pv).2, ep⟩]) ep p2) => show Next W w3 b qb pb a ep p2 from ⟨_, _, h, hQ2.out.1.snoc bits 0 _, by simp, PW2.out.guess pv⟩)
          go_wp2_with fail
          refine (WT.out).mono ?_
          rintro e w9 ⟨rfl, hf⟩
          have G3 := hide (fun bits => GT.out _ bits hf)
          clear hf
          simp only []
          go_wp2_with fail
          refine (G3.out _).mono ?_
          rintro e w9 ⟨rfl, hf⟩
          have NX := hide (NXT.out _ _ hf)
          clear hf G3 GT WT NXT H3 hQ2
          simp only []
          obtain ⟨L, pn, hf4, pt4, hL, hin⟩ := NX.out
          have H4 := hide hf4
          have PT := hide pt4
          have IN := hide hin
          clear hf4 pt4 hin NX
          by_cases hk : i < lk
          · obtain ⟨bk, ok', tk, rfl, hbk, -, hck⟩ := HK.out i hk
            have ck2 := (keepc hbk (show W.cell? ⟨bk, ok' + i, .none⟩ = some (.bool tk) by have := hck 0 (by omega); simpa using this)).out _ H4.out.bel
            have dk : decide ((i : Int) < lk) = true := decide_eq_true (by omega)
            clear hck
            cases tk
            · -- not taken
              by_cases h8 : i % 9 = 8
              · have t8 := tm9 i h8
                have r8 : (i : Int) % 9 = 8 := by omega
                clear h8
                by_cases hm : i / 9 < lu
                · obtain ⟨bu, ou, rfl, hbu, hcu, hwu⟩ := HU.out (i / 9) hm
                  obtain ⟨z0, z1⟩ := u64_in hwu
                  have cu2 := (keepc hbu hcu).out _ H4.out.bel
                  have dm := lm9 i lu hm
                  have dm1 : (0 : Int) ≤ (i : Int) / 9 := by omega
                  have dm2 : (i : Int) / 9 < (lu : Int) := of_decide_eq_true dm
                  clear hcu hwu hm
                  obtain ⟨zz, hzz⟩ : ∃ zz, zz = z (i / 9) := ⟨_, rfl⟩
                  rw [← hzz] at z0 z1 cu2
                  clear hzz
                  have TU := hide (fturn H4.out zz (by omega))
                  have GN := hide (fun (w3 : World) (h : FS W w3 b qb pb zz false [] (ep + 1) { p2 with n := 0 }) => fgot_no h (pv) ((ep : Int)) 7 0 (.inr ⟨rfl, by simp, by
                    by_cases hz : zz = pv
                    · exact .inr ⟨hz, by omega⟩
                    · exact .inl hz⟩))
                  go_wp2_with fail
                  refine (TU.out).mono ?_
                  rintro e w9 ⟨rfl, hf⟩
                  have G8 := hide (GN.out _ hf)
                  clear hf cu2 TU GN
                  simp only []
                  go_wp2_with fail
                  refine (G8.out).mono ?_
                  rintro e w9 ⟨rfl, hf⟩
                  have H9 := hide hf
                  have PS := hide (PW.squash PW2.out)
                  clear hf G8
                  simp only []
                  go_wp2
                  go_roundg (100 - (i + 1))
                  case measure => (try clear td); have := hig.out; omega
                  case rel => (try clear td); exact ⟨i + 1, zz, _, _, ep + 1, _, by unfold Hid; have := hig.out; omega, by omega, by go_num, by go_num, by omega, H9.out, PS.out, rfl, z0, z1⟩
                · have dm := ln9 i lu hm
                  have dm2 : ¬ ((i : Int) / 9 < (lu : Int)) := of_decide_eq_false dm
                  clear hm
                  go_wp2
                  go_roundg (100 - (i + 1))
                  case measure => (try clear td); have := hig.out; omega
                  case rel => (try clear td); exact ⟨i + 1, a, _, _, ep, _, by unfold Hid; have := hig.out; omega, by omega, by go_num, by go_num, by omega, H4.out, PW2.out, PT.out, IN.out⟩
              · have t8 := tn9 i h8
                have r8 : ¬ ((i : Int) % 9 = 8) := by omega
                clear h8
                go_wp2
                go_roundg (100 - (i + 1))
                case measure => (try clear td); have := hig.out; omega
                case rel => (try clear td); exact ⟨i + 1, a, _, _, ep, _, by unfold Hid; have := hig.out; omega, by omega, by go_num, by go_num, by omega, H4.out, PW2.out, PT.out, IN.out⟩
            · rcases L with _ | ⟨s, L⟩
              · simp at hL
              · obtain ⟨e1, e2, pt5⟩ := PT.out
                obtain ⟨sa, sb, sf, sn, se⟩ := s
                simp only [] at e1 e2 pt5
                subst e1 e2
                have P5 := hide pt5
                clear pt5 PT
                go_wp2_with fail
                refine (ftake_yes H4.out).mono ?_
                rintro e w9 ⟨rfl, hf⟩
                have H5 := hide hf
                clear hf ck2
                simp only []
                have H5a := hide (H5.out.alloc (.cells #[.int .u64 sa, .int .u32 sb, .int .i64 sf, .int .u64 sn, .int .i64 ep] 34))
                have EP := hide (fun n : Nat => fepoch (H5a.out.drewN n))
                go_wp2_with fail
                go_quiet ((go_at_call 44; exact Calls.quiet_of_same (EP.out _)))
                have H6 := hide (H5a.out.drewN nq)
                have bx : World.cell? (World.drewN (World.alloc w9 (.cells #[.int .u64 sa, .int .u32 sb, .int .i64 sf, .int .u64 sn, .int .i64 ep] 34)) nq) ⟨w9.heap.size, 3, .none⟩ = some (.int .u64 sn) := by
                  show World.cell? (World.alloc w9 _) _ = _
                  rw [World.cell?_alloc_new]; rfl
                generalize World.drewN (World.alloc w9 (.cells #[.int .u64 sa, .int .u32 sb, .int .i64 sf, .int .u64 sn, .int .i64 ep] 34)) nq = wq at *
                clear H5 H5a EP H4
                by_cases h8 : i % 9 = 8
                · have t8 := tm9 i h8
                  have r8 : (i : Int) % 9 = 8 := by omega
                  clear h8
                  by_cases hm : i / 9 < lu
                  · obtain ⟨bu, ou, rfl, hbu, hcu, hwu⟩ := HU.out (i / 9) hm
                    obtain ⟨z0, z1⟩ := u64_in hwu
                    have cu2 := (keepc hbu hcu).out _ H6.out.bel
                    have dm := lm9 i lu hm
                    have dm1 : (0 : Int) ≤ (i : Int) / 9 := by omega
                    have dm2 : (i : Int) / 9 < (lu : Int) := of_decide_eq_true dm
                    clear hcu hwu hm
                    obtain ⟨zz, hzz⟩ : ∃ zz, zz = z (i / 9) := ⟨_, rfl⟩
                    rw [← hzz] at z0 z1 cu2
                    clear hzz
                    have TU := hide (fturn H6.out zz (by omega))
                    have GN := hide (fun (w3 : World) (h : FS W w3 b qb pb zz false [] (ep + 1) { p2 with n := 0 }) => fgot_no h (pv) ((ep : Int)) 7 0 (.inr ⟨rfl, by simp, by
                      by_cases hz : zz = pv
                      · exact .inr ⟨hz, by omega⟩
                      · exact .inl hz⟩))
                    go_wp2_with fail
                    refine (TU.out).mono ?_
                    rintro e w9 ⟨rfl, hf⟩
                    have G8 := hide (GN.out _ hf)
                    clear hf cu2 TU GN
                    simp only []
                    go_wp2_with fail
                    refine (G8.out).mono ?_
                    rintro e w9 ⟨rfl, hf⟩
                    have H9 := hide hf
                    have PS := hide (PW.squash PW2.out)
                    clear hf G8
                    simp only []
                    go_wp2
                    go_roundg (100 - (i + 1))
                    case measure => (try clear td); have := hig.out; omega
                    case rel => (try clear td); exact ⟨i + 1, zz, _, _, ep + 1, _, by unfold Hid; have := hig.out; omega, by omega, by go_num, by go_num, by omega, H9.out, PS.out, rfl, z0, z1⟩
                  · have dm := ln9 i lu hm
                    have dm2 : ¬ ((i : Int) / 9 < (lu : Int)) := of_decide_eq_false dm
                    clear hm
                    go_wp2
                    go_roundg (100 - (i + 1))
                    case measure => (try clear td); have := hig.out; omega
                    case rel => (try clear td); exact ⟨i + 1, sn, _, _, ep, _, by unfold Hid; have := hig.out; omega, by omega, by go_num, by go_num, by omega, H6.out, PW2.out, P5.out, IN.out⟩
                · have t8 := tn9 i h8
                  have r8 : ¬ ((i : Int) % 9 = 8) := by omega
                  clear h8
                  go_wp2
                  go_roundg (100 - (i + 1))
                  case measure => (try clear td); have := hig.out; omega
                  case rel => (try clear td); exact ⟨i + 1, sn, _, _, ep, _, by unfold Hid; have := hig.out; omega, by omega, by go_num, by go_num, by omega, H6.out, PW2.out, P5.out, IN.out⟩
          · have dk : decide ((i : Int) < lk) = false := decide_eq_false (by omega)
            by_cases h8 : i % 9 = 8
            · have t8 := tm9 i h8
              have r8 : (i : Int) % 9 = 8 := by omega
              clear h8
              by_cases hm : i / 9 < lu
              · obtain ⟨bu, ou, rfl, hbu, hcu, hwu⟩ := HU.out (i / 9) hm
                obtain ⟨z0, z1⟩ := u64_in hwu
                have cu2 := (keepc hbu hcu).out _ H4.out.bel
                have dm := lm9 i lu hm
                have dm1 : (0 : Int) ≤ (i : Int) / 9 := by omega
                have dm2 : (i : Int) / 9 < (lu : Int) := of_decide_eq_true dm
                clear hcu hwu hm
                obtain ⟨zz, hzz⟩ : ∃ zz, zz = z (i / 9) := ⟨_, rfl⟩
                rw [← hzz] at z0 z1 cu2
                clear hzz
                have TU := hide (fturn H4.out zz (by omega))
                have GN := hide (fun (w3 : World) (h : FS W w3 b qb pb zz false [] (ep + 1) { p2 with n := 0 }) => fgot_no h (pv) ((ep : Int)) 7 0 (.inr ⟨rfl, by simp, by
                  by_cases hz : zz = pv
                  · exact .inr ⟨hz, by omega⟩
                  · exact .inl hz⟩))
                go_wp2_with fail
                refine (TU.out).mono ?_
                rintro e w9 ⟨rfl, hf⟩
                have G8 := hide (GN.out _ hf)
                clear hf cu2 TU GN
                simp only []
                go_wp2_with fail
                refine (G8.out).mono ?_
                rintro e w9 ⟨rfl, hf⟩
                have H9 := hide hf
                have PS := hide (PW.squash PW2.out)
                clear hf G8
                simp only []
                go_wp2
                go_roundg (100 - (i + 1))
                case measure => (try clear td); have := hig.out; omega
                case rel => (try clear td); exact ⟨i + 1, zz, _, _, ep + 1, _, by unfold Hid; have := hig.out; omega, by omega, by go_num, by go_num, by omega, H9.out, PS.out, rfl, z0, z1⟩
              · have dm := ln9 i lu hm
                have dm2 : ¬ ((i : Int) / 9 < (lu : Int)) := of_decide_eq_false dm
                clear hm
                go_wp2
                go_roundg (100 - (i + 1))
                case measure => (try clear td); have := hig.out; omega
                case rel => (try clear td); exact ⟨i + 1, a, _, _, ep, _, by unfold Hid; have := hig.out; omega, by omega, by go_num, by go_num, by omega, H4.out, PW2.out, PT.out, IN.out⟩
            · have t8 := tn9 i h8
              have r8 : ¬ ((i : Int) % 9 = 8) := by omega
              clear h8
              go_wp2
              go_roundg (100 - (i + 1))
              case measure => (try clear td); have := hig.out; omega
              case rel => (try clear td); exact ⟨i + 1, a, _, _, ep, _, by unfold Hid; have := hig.out; omega, by omega, by go_num, by go_num, by omega, H4.out, PW2.out, PT.out, IN.out⟩
        · have hlen := H3.out.len
          have WT := hide (fwant_no H3.out (.inr ⟨rfl, by omega⟩))
          have NXT := hide (fun (w3 : World) (h : FS W w3 b qb pb pv false l ep p2) => show Next W w3 b qb pb a ep p2 from ⟨_, _, h, hQ2.out.1, by omega, hQ2.out.2⟩)
          go_wp2_with fail
          refine (WT.out).mono ?_
          rintro e w9 ⟨rfl, hf⟩
          have NX := hide (NXT.out _ hf)
          clear hf WT NXT H3 hQ2
          simp only []
          obtain ⟨L, pn, hf4, pt4, hL, hin⟩ := NX.out
          have H4 := hide hf4
          have PT := hide pt4
          have IN := hide hin
          clear hf4 pt4 hin NX
          by_cases hk : i < lk
          · obtain ⟨bk, ok', tk, rfl, hbk, -, hck⟩ := HK.out i hk
            have ck2 := (keepc hbk (show W.cell? ⟨bk, ok' + i, .none⟩ = some (.bool tk) by have := hck 0 (by omega); simpa using this)).out _ H4.out.bel
            have dk : decide ((i : Int) < lk) = true := decide_eq_true (by omega)
            clear hck
            cases tk
            · -- not taken
              by_cases h8 : i % 9 = 8
              · have t8 := tm9 i h8
                have r8 : (i : Int) % 9 = 8 := by omega
                clear h8
                by_cases hm : i / 9 < lu
                · obtain ⟨bu, ou, rfl, hbu, hcu, hwu⟩ := HU.out (i / 9) hm
                  obtain ⟨z0, z1⟩ := u64_in hwu
                  have cu2 := (keepc hbu hcu).out _ H4.out.bel
                  have dm := lm9 i lu hm
                  have dm1 : (0 : Int) ≤ (i : Int) / 9 := by omega
                  have dm2 : (i : Int) / 9 < (lu : Int) := of_decide_eq_true dm
                  clear hcu hwu hm
                  obtain ⟨zz, hzz⟩ : ∃ zz, zz = z (i / 9) := ⟨_, rfl⟩
                  rw [← hzz] at z0 z1 cu2
                  clear hzz
                  have TU := hide (fturn H4.out zz (by omega))
                  have GN := hide (fun (w3 : World) (h : FS W w3 b qb pb zz false [] (ep + 1) { p2 with n := 0 }) => fgot_no h (0) (0) 7 0 (.inr ⟨rfl, by simp, by
                    by_cases hz : zz = 0
                    · exact .inr ⟨hz, by omega⟩
                    · exact .inl hz⟩))
                  go_wp2_with fail
                  refine (TU.out).mono ?_
                  rintro e w9 ⟨rfl, hf⟩
                  have G8 := hide (GN.out _ hf)
                  clear hf cu2 TU GN
                  simp only []
                  go_wp2_with fail
                  refine (G8.out).mono ?_
                  rintro e w9 ⟨rfl, hf⟩
                  have H9 := hide hf
                  have PS := hide (PW.squash PW2.out)
                  clear hf G8
                  simp only []
                  go_wp2
                  go_roundg (100 - (i + 1))
                  case measure => (try clear td); have := hig.out; omega
                  case rel => (try clear td); exact ⟨i + 1, zz, _, _, ep + 1, _, by unfold Hid; have := hig.out; omega, by omega, by go_num, by go_num, by omega, H9.out, PS.out, rfl, z0, z1⟩
                · have dm := ln9 i lu hm
                  have dm2 : ¬ ((i : Int) / 9 < (lu : Int)) := of_decide_eq_false dm
                  clear hm
                  go_wp2
                  go_roundg (100 - (i + 1))
                  case measure => (try clear td); have := hig.out; omega
                  case rel => (try clear td); exact ⟨i + 1, a, _, _, ep, _, by unfold Hid; have := hig.out; omega, by omega, by go_num, by go_num, by omega, H4.out, PW2.out, PT.out, IN.out⟩
              · have t8 := tn9 i h8
                have r8 : ¬ ((i : Int) % 9 = 8) := by omega
                clear h8
                go_wp2
                go_roundg (100 - (i + 1))
                case measure => (try clear td); have := hig.out; omega
                case rel => (try clear td); exact ⟨i + 1, a, _, _, ep, _, by unfold Hid; have := hig.out; omega, by omega, by go_num, by go_num, by omega, H4.out, PW2.out, PT.out, IN.out⟩
            · rcases L with _ | ⟨s, L⟩
              · simp at hL
              · obtain ⟨e1, e2, pt5⟩ := PT.out
                obtain ⟨sa, sb, sf, sn, se⟩ := s
                simp only [] at e1 e2 pt5
                subst e1 e2
                have P5 := hide pt5
                clear pt5 PT
                go_wp2_with fail
                refine (ftake_yes H4.out).mono ?_
                rintro e w9 ⟨rfl, hf⟩
                have H5 := hide hf
                clear hf ck2
                simp only []
                have H5a := hide (H5.out.alloc (.cells #[.int .u64 sa, .int .u32 sb, .int .i64 sf, .int .u64 sn, .int .i64 ep] 34))
                have EP := hide (fun n : Nat => fepoch (H5a.out.drewN n))
                go_wp2_with fail
                go_quiet ((go_at_call 44; exact Calls.quiet_of_same (EP.out _)))
                have H6 := hide (H5a.out.drewN nq)
                have bx : World.cell? (World.drewN (World.alloc w9 (.cells #[.int .u64 sa, .int .u32 sb, .int .i64 sf, .int .u64 sn, .int .i64 ep] 34)) nq) ⟨w9.heap.size, 3, .none⟩ = some (.int .u64 sn) := by
                  show World.cell? (World.alloc w9 _) _ = _
                  rw [World.cell?_alloc_new]; rfl
                generalize World.drewN (World.alloc w9 (.cells #[.int .u64 sa, .int .u32 sb, .int .i64 sf, .int .u64 sn, .int .i64 ep] 34)) nq = wq at *
                clear H5 H5a EP H4
                by_cases h8 : i % 9 = 8
                · have t8 := tm9 i h8
                  have r8 : (i : Int) % 9 = 8 := by omega
                  clear h8
                  by_cases hm : i / 9 < lu
                  · obtain ⟨bu, ou, rfl, hbu, hcu, hwu⟩ := HU.out (i / 9) hm
                    obtain ⟨z0, z1⟩ := u64_in hwu
                    have cu2 := (keepc hbu hcu).out _ H6.out.bel
                    have dm := lm9 i lu hm
                    have dm1 : (0 : Int) ≤ (i : Int) / 9 := by omega
                    have dm2 : (i : Int) / 9 < (lu : Int) := of_decide_eq_true dm
                    clear hcu hwu hm
                    obtain ⟨zz, hzz⟩ : ∃ zz, zz = z (i / 9) := ⟨_, rfl⟩
                    rw [← hzz] at z0 z1 cu2
                    clear hzz
                    have TU := hide (fturn H6.out zz (by omega))
                    have GN := hide (fun (w3 : World) (h : FS W w3 b qb pb zz false [] (ep + 1) { p2 with n := 0 }) => fgot_no h (0) (0) 7 0 (.inr ⟨rfl, by simp, by
                      by_cases hz : zz = 0
                      · exact .inr ⟨hz, by omega⟩
                      · exact .inl hz⟩))
                    go_wp2_with fail
                    refine (TU.out).mono ?_
                    rintro e w9 ⟨rfl, hf⟩
                    have G8 := hide (GN.out _ hf)
                    clear hf cu2 TU GN
                    simp only []
                    go_wp2_with fail
                    refine (G8.out).mono ?_
                    rintro e w9 ⟨rfl, hf⟩
                    have H9 := hide hf
                    have PS := hide (PW.squash PW2.out)
                    clear hf G8
                    simp only []
                    go_wp2
                    go_roundg (100 - (i + 1))
                    case measure => (try clear td); have := hig.out; omega
                    case rel => (try clear td); exact ⟨i + 1, zz, _, _, ep + 1, _, by unfold Hid; have := hig.out; omega, by omega, by go_num, by go_num, by omega, H9.out, PS.out, rfl, z0, z1⟩
                  · have dm := ln9 i lu hm
                    have dm2 : ¬ ((i : Int) / 9 < (lu : Int)) := of_decide_eq_false dm
                    clear hm
                    go_wp2
                    go_roundg (100 - (i + 1))
                    case measure => (try clear td); have := hig.out; omega
                    case rel => (try clear td); exact ⟨i + 1, sn, _, _, ep, _, by unfold Hid; have := hig.out; omega, by omega, by go_num, by go_num, by omega, H6.out, PW2.out, P5.out, IN.out⟩
                · have t8 := tn9 i h8
                  have r8 : ¬ ((i : Int) % 9 = 8) := by omega
                  clear h8
                  go_wp2
                  go_roundg (100 - (i + 1))
                  case measure => (try clear td); have := hig.out; omega
                  case rel => (try clear td); exact ⟨i + 1, sn, _, _, ep, _, by unfold Hid; have := hig.out; omega, by omega, by go_num, by go_num, by omega, H6.out, PW2.out, P5.out, IN.out⟩
          · have dk : decide ((i : Int) < lk) = false := decide_eq_false (by omega)
            by_cases h8 : i % 9 = 8
            · have t8 := tm9 i h8
              have r8 : (i : Int) % 9 = 8 := by omega
              clear h8
              by_cases hm : i / 9 < lu
              · obtain ⟨bu, ou, rfl, hbu, hcu, hwu⟩ := HU.out (i / 9) hm
                obtain ⟨z0, z1⟩ := u64_in hwu
                have cu2 := (keepc hbu hcu).out _ H4.out.bel
                have dm := lm9 i lu hm
                have dm1 : (0 : Int) ≤ (i : Int) / 9 := by omega
                have dm2 : (i : Int) / 9 < (lu : Int) := of_decide_eq_true dm
                clear hcu hwu hm
                obtain ⟨zz, hzz⟩ : ∃ zz, zz = z (i / 9) := ⟨_, rfl⟩
                rw [← hzz] at z0 z1 cu2
                clear hzz
                have TU := hide (fturn H4.out zz (by omega))
                have GN := hide (fun (w3 : World) (h : FS W w3 b qb pb zz false [] (ep + 1) { p2 with n := 0 }) => fgot_no h (0) (0) 7 0 (.inr ⟨rfl, by simp, by
                  by_cases hz : zz = 0
                  · exact .inr ⟨hz, by omega⟩
                  · exact .inl hz⟩))
                go_wp2_with fail
                refine (TU.out).mono ?_
                rintro e w9 ⟨rfl, hf⟩
                have G8 := hide (GN.out _ hf)
                clear hf cu2 TU GN
                simp only []
                go_wp2_with fail
                refine (G8.out).mono ?_
                rintro e w9 ⟨rfl, hf⟩
                have H9 := hide hf
                have PS := hide (PW.squash PW2.out)
                clear hf G8
                simp only []
                go_wp2
                go_roundg (100 - (i + 1))
                case measure => (try clear td); have := hig.out; omega
                case rel => (try clear td); exact ⟨i + 1, zz, _, _, ep + 1, _, by unfold Hid; have := hig.out; omega, by omega, by go_num, by go_num, by omega, H9.out, PS.out, rfl, z0, z1⟩
              · have dm := ln9 i lu hm
                have dm2 : ¬ ((i : Int) / 9 < (lu : Int)) := of_decide_eq_false dm
                clear hm
                go_wp2
                go_roundg (100 - (i + 1))
                case measure => (try clear td); have := hig.out; omega
                case rel => (try clear td); exact ⟨i + 1, a, _, _, ep, _, by unfold Hid; have := hig.out; omega, by omega, by go_num, by go_num, by omega, H4.out, PW2.out, PT.out, IN.out⟩
            · have t8 := tn9 i h8
              have r8 : ¬ ((i : Int) % 9 = 8) := by omega
              clear h8
              go_wp2
              go_roundg (100 - (i + 1))
              case measure => (try clear td); have := hig.out; omega
              case rel => (try clear td); exact ⟨i + 1, a, _, _, ep, _, by unfold Hid; have := hig.out; omega, by omega, by go_num, by go_num, by omega, H4.out, PW2.out, PT.out, IN.out⟩
    · have BB := hide hQ.out.1.bel
      have d100 : decide ((i : Int) < 100) = false := decide_eq_false (by omega)
      clear hQ
      go_wp2_with fail
      go_ret
      exact ⟨rfl, BB.out⟩
end Go.Proofs.Ytkjgklpdoomjcaa


/- The law's told, beside the front: by a contract. -/
import Derived.Test.YtkjgklpdoomjcaaFrtS
namespace Go.Proofs.Ytkjgklpdoomjcaa.Wide
open Go.RowKit
set_option linter.unusedVariables false
set_option linter.unusedSimpArgs false
/-- What 'told' leaves. -/
def TF (W : World) (b qb pb sb rb : Nat) (pc : Int) (fl : Bool) (L : List S) (ep : Nat) (p : P) (a : Option Addr) (cap : Nat) (c : Option Addr) (k : Nat) (e : Ending) (w' : World) : Prop := e = .returned (.bool true) ∧ FT W b qb pb sb rb pc fl L ep p a cap c k w'
section
variable {W w w' : World} {b qb pb sb rb : Nat} {pc : Int} {fl : Bool} {l : List S} {s : S} {ep : Nat} {p : P} {a : Option Addr} {cap : Nat} {c : Option Addr} {k : Nat}
set_option maxRecDepth 100000 in
set_option maxHeartbeats 6400000 in
theorem told27_y0 (lo hi : Int) (h : FT W b qb pb sb rb pc false ([] : List S) ep p a cap c k w) (hn : ([] : List S).length < 8) :
    Calls Try.prog 45 #[.pointer (some ⟨sb, 0, none⟩), .pointer (some ⟨b, 0, none⟩), .int .u64 lo, .int .u64 hi] w (TF W b qb pb sb rb pc false ([] : List S) ep p a cap c k) := by
  have hW : wantsB false ([] : List S) = true := by
    unfold wantsB; rw [show decide (([] : List S).length < 8) = true from decide_eq_true hn]; rfl
  have HW := hide hW
  have H := hide h
  have WT := hide (fwant_yes h.fs hn)
  have PK := hide (fun (w2 : World) (h2 : FT W b qb pb sb rb pc false ([] : List S) ep p a cap c k w2) => fpeek_no h2.fs)
  have HO := hide (fun (w2 : World) (h2 : FT W b qb pb sb rb pc false ([] : List S) ep p a cap c k w2) => fholds_yes h2.fs hn lo hi)
  have WA := hide (fun (w2 : World) (h2 : FT W b qb pb sb rb pc false ([] : List S) ep p a cap c k w2) => (wants_any w2 sb rb pc false ([] : List S) ep p a cap c k h2.rt))
  rw [hW] at WA
  clear hW hn h
  go_enter Try.func45, Try.ntmps45
  go_wp2_with fail
  refine WT.out.mono ?_
  rintro e w1 ⟨rfl, hf⟩
  have H1 := hide (H.out.front hf)
  clear hf WT
  obtain ⟨c0, c1, c2, c3⟩ := (show _ ∧ _ ∧ _ ∧ _ from ⟨H1.out.rt.c0, H1.out.rt.c1, H1.out.rt.c2, H1.out.rt.c3⟩)
  have hlt := H1.out.rt.sc.lt
  have W1 := hide (fun n : Nat => show Calls Try.prog 54 #[.pointer (some ⟨sb, 0, none⟩)] (w1.drewN n) fun e w' => e = .returned (.bool true) ∧ w' = w1.drewN n from WA.out _ (H1.out.drewN n))
  have E1 := hide (fun n : Nat => show Calls Try.prog 44 #[.pointer (some ⟨b, 0, none⟩)] (w1.drewN n) fun e w' => e = .returned (.int .i64 ep) ∧ w' = w1.drewN n from fepoch (H1.out.drewN n).fs)
  simp only []
  go_wp2_with fail
  go_quiet ((first | (go_at_call 54; exact Calls.quiet_of_same (W1.out _)) | (go_at_call 44; exact Calls.quiet_of_same (E1.out _))))
  have H2 := hide (H1.out.drewN nq)
  generalize w1.drewN nq = w2 at *
  clear c0 c1 c2 c3 W1 E1 hlt
  go_wp2_with fail
  refine (PK.out _ H2.out).mono ?_
  rintro e w3 ⟨rfl, hf⟩
  have H3 := hide ((H2.out.front hf).alloc (.cells #[.int .u64 0, .int .u32 0, .int .i64 0, .int .u64 0, .int .i64 0] 34))
  have bx := S.five (S.box ⟨0, 0, 0, 0, 0⟩ w3)
  clear hf PK H1 H2
  simp only []
  go_wp2_with fail
  generalize w3.alloc (.cells #[.int .u64 0, .int .u32 0, .int .i64 0, .int .u64 0, .int .i64 0] 34) = w4 at *
  obtain ⟨b0, b1, b2, b3, b4⟩ := bx
  obtain ⟨c0, c1, c2, c3⟩ := (show _ ∧ _ ∧ _ ∧ _ from ⟨H3.out.rt.c0, H3.out.rt.c1, H3.out.rt.c2, H3.out.rt.c3⟩)
  go_quiet (fail)
  have H4 := hide (H3.out.drewN nq)
  generalize w4.drewN nq = w5 at *
  clear b0 b1 b2 b3 b4 c0 c1 c2 c3 H3
  obtain ⟨c0, c3⟩ := (show _ ∧ _ from ⟨H4.out.rt.c0, H4.out.rt.c3⟩)
  have hlt := H4.out.rt.sc.lt
  have W5 := hide (WA.out _ H4.out)
  go_upto_region 7 with (fail)
  go_cut [14] (fun v wc => v = .bool (inR lo hi pc) ∧ wc = w5)
  case first =>
    by_cases h1 : lo ≤ pc
    · have d1 : decide (lo ≤ pc) = true := by simpa using h1
      by_cases h2 : pc < hi
      · have d2 : decide (pc < hi) = true := by simpa using h2
        have E := hide (show inR lo hi pc = true by unfold inR; rw [d1, d2]; rfl)
        clear h1 h2
        go_wp2_with fail
        refine W5.out.mono ?_
        rintro e w6 ⟨rfl, rfl⟩
        simp only []
        go_wp2_with fail
        go_meet
        exact ⟨by rw [E.out], rfl⟩
      · have d2 : decide (pc < hi) = false := by simpa using h2
        have E := hide (show inR lo hi pc = false by unfold inR; rw [d1, d2]; rfl)
        clear h1 h2
        go_wp2_with fail
        refine W5.out.mono ?_
        rintro e w6 ⟨rfl, rfl⟩
        simp only []
        go_wp2_with fail
        go_meet
        exact ⟨by rw [E.out], rfl⟩
    · have d1 : decide (lo ≤ pc) = false := by simpa using h1
      have E := hide (show inR lo hi pc = false by unfold inR; rw [d1]; rfl)
      clear h1
      go_wp2_with fail
      refine W5.out.mono ?_
      rintro e w6 ⟨rfl, rfl⟩
      simp only []
      go_wp2_with fail
      go_meet
      exact ⟨by rw [E.out], rfl⟩
  case rest =>
    obtain ⟨rfl, rfl⟩ := hcut
    have HH := hide (HO.out _ H4.out)
    generalize inR lo hi pc = ini at *
    go_wp2_with fail
    refine wp_loop_rounds 1 ?_
    rw [rounds_succ]
    go_wp2_with fail
    refine HH.out.mono ?_
    rintro e w6 ⟨rfl, hf⟩
    have H5 := hide (H4.out.front hf)
    clear hf HH
    simp only []
    go_wp2_with fail
    go_ret
    exact ⟨by simp, H5.out⟩
set_option maxRecDepth 100000 in
set_option maxHeartbeats 6400000 in
theorem told27_y1 (lo hi : Int) (h : FT W b qb pb sb rb pc false (s :: l) ep p a cap c k w) (hn : (s :: l).length < 8) :
    Calls Try.prog 45 #[.pointer (some ⟨sb, 0, none⟩), .pointer (some ⟨b, 0, none⟩), .int .u64 lo, .int .u64 hi] w (TF W b qb pb sb rb pc false (s :: l) ep p a cap c k) := by
  obtain ⟨N, hN⟩ : ∃ N, (s :: l).length = N := ⟨_, rfl⟩
  have N0 : 0 < N := by rw [← hN]; simp
  have N8 : N ≤ 8 := by rw [← hN]; exact h.len
  have HN := hide hN
  have hcap := SL.le h.rt.sl
  have hmax := SL.max h.rt.sl
  unfold maxLen at hmax
  rw [hN] at hcap
  obtain ⟨g, off, hga, -, -, -⟩ := h.rt.sl.first
  subst hga
  clear hN
  have hW : wantsB false (s :: l) = true := by
    unfold wantsB; rw [show decide ((s :: l).length < 8) = true from decide_eq_true hn]; rfl
  have HW := hide hW
  have H := hide h
  have WT := hide (fwant_yes h.fs hn)
  have PK := hide (fun (w2 : World) (h2 : FT W b qb pb sb rb pc false (s :: l) ep p (some ⟨g, off, none⟩) cap c k w2) => fpeek_yes h2.fs)
  have HO := hide (fun (w2 : World) (h2 : FT W b qb pb sb rb pc false (s :: l) ep p (some ⟨g, off, none⟩) cap c k w2) => fholds_yes h2.fs hn lo hi)
  have WA := hide (fun (w2 : World) (h2 : FT W b qb pb sb rb pc false (s :: l) ep p (some ⟨g, off, none⟩) cap c k w2) => (wants_any w2 sb rb pc false (s :: l) ep p (some ⟨g, off, none⟩) cap c k h2.rt))
  rw [hW] at WA
  clear hW hn h
  go_enter Try.func45, Try.ntmps45
  go_wp2_with fail
  refine WT.out.mono ?_
  rintro e w1 ⟨rfl, hf⟩
  have H1 := hide (H.out.front hf)
  clear hf WT
  obtain ⟨c0, c1, c2, c3⟩ := (show _ ∧ _ ∧ _ ∧ _ from ⟨H1.out.rt.c0, H1.out.rt.c1, H1.out.rt.c2, H1.out.rt.c3⟩)
  rw [HN.out] at c3
  have hlt := H1.out.rt.sc.lt
  have W1 := hide (fun n : Nat => show Calls Try.prog 54 #[.pointer (some ⟨sb, 0, none⟩)] (w1.drewN n) fun e w' => e = .returned (.bool true) ∧ w' = w1.drewN n from WA.out _ (H1.out.drewN n))
  have E1 := hide (fun n : Nat => show Calls Try.prog 44 #[.pointer (some ⟨b, 0, none⟩)] (w1.drewN n) fun e w' => e = .returned (.int .i64 ep) ∧ w' = w1.drewN n from fepoch (H1.out.drewN n).fs)
  simp only []
  go_wp2_with fail
  go_quiet ((first | (go_at_call 54; exact Calls.quiet_of_same (W1.out _)) | (go_at_call 44; exact Calls.quiet_of_same (E1.out _))))
  have H2 := hide (H1.out.drewN nq)
  generalize w1.drewN nq = w2 at *
  clear c0 c1 c2 c3 W1 E1 hlt
  go_wp2_with fail
  refine (PK.out _ H2.out).mono ?_
  rintro e w3 ⟨rfl, hf⟩
  have H3 := hide ((H2.out.front hf).alloc (.cells #[.int .u64 s.pc, .int .u32 s.bits, .int .i64 s.fault, .int .u64 s.next, .int .i64 s.epoch] 34))
  have bx := S.five (S.box s w3)
  clear hf PK H1 H2
  simp only []
  go_wp2_with fail
  generalize w3.alloc (.cells #[.int .u64 s.pc, .int .u32 s.bits, .int .i64 s.fault, .int .u64 s.next, .int .i64 s.epoch] 34) = w4 at *
  obtain ⟨b0, b1, b2, b3, b4⟩ := bx
  obtain ⟨c0, c1, c2, c3⟩ := (show _ ∧ _ ∧ _ ∧ _ from ⟨H3.out.rt.c0, H3.out.rt.c1, H3.out.rt.c2, H3.out.rt.c3⟩)
  rw [HN.out] at c3
  have hd : decide ((0 : Int) < (N : Int)) = true := by simpa using N0
  obtain ⟨g', off', hge, -, -, s0, s1, s2, s3, s4⟩ := H3.out.rt.sl.first
  injection hge with hge
  injection hge with hg1 hg2
  subst hg1 hg2
  go_quiet (fail)
  have H4 := hide (H3.out.drewN nq)
  generalize w4.drewN nq = w5 at *
  clear b0 b1 b2 b3 b4 c0 c1 c2 c3 H3 s0 s1 s2 s3 s4 hd
  obtain ⟨c0, c3⟩ := (show _ ∧ _ from ⟨H4.out.rt.c0, H4.out.rt.c3⟩)
  rw [HN.out] at c3
  have hlt := H4.out.rt.sc.lt
  have W5 := hide (WA.out _ H4.out)
  go_upto_region 7 with (fail)
  go_cut [14] (fun v wc => v = .bool (inR lo hi pc) ∧ wc = w5)
  case first =>
    by_cases h1 : lo ≤ pc
    · have d1 : decide (lo ≤ pc) = true := by simpa using h1
      by_cases h2 : pc < hi
      · have d2 : decide (pc < hi) = true := by simpa using h2
        have E := hide (show inR lo hi pc = true by unfold inR; rw [d1, d2]; rfl)
        clear h1 h2
        go_wp2_with fail
        refine W5.out.mono ?_
        rintro e w6 ⟨rfl, rfl⟩
        simp only []
        go_wp2_with fail
        go_meet
        exact ⟨by rw [E.out], rfl⟩
      · have d2 : decide (pc < hi) = false := by simpa using h2
        have E := hide (show inR lo hi pc = false by unfold inR; rw [d1, d2]; rfl)
        clear h1 h2
        go_wp2_with fail
        refine W5.out.mono ?_
        rintro e w6 ⟨rfl, rfl⟩
        simp only []
        go_wp2_with fail
        go_meet
        exact ⟨by rw [E.out], rfl⟩
    · have d1 : decide (lo ≤ pc) = false := by simpa using h1
      have E := hide (show inR lo hi pc = false by unfold inR; rw [d1]; rfl)
      clear h1
      go_wp2_with fail
      refine W5.out.mono ?_
      rintro e w6 ⟨rfl, rfl⟩
      simp only []
      go_wp2_with fail
      go_meet
      exact ⟨by rw [E.out], rfl⟩
  case rest =>
    obtain ⟨rfl, rfl⟩ := hcut
    have HH := hide (HO.out _ H4.out)
    generalize inR lo hi pc = ini at *
    go_wp2_with fail
    go_loopg [14, 15] N (fun gg vis vi wr => ∃ i : Nat, i + gg = N ∧ wr = wc ∧ vi = .int .i64 i ∧ ∃ is : Bool, vis = .bool is ∧ Hid ((ini || ((s :: l).take i).any (fun x => inR lo hi x.pc)) = is))
    case atStart => exact ⟨0, by omega, rfl, rfl, ini, rfl, by show (ini || false) = ini; simp⟩
    case round =>
      obtain ⟨i, hig, rfl, rfl, is, rfl, his⟩ := hrel
      by_cases hi' : i < N
      · obtain ⟨g', off', hge, -, -, s0, -⟩ := H4.out.rt.sl.at_ i (by rw [HN.out]; exact hi')
        injection hge with hge
        injection hge with hg1 hg2
        subst hg1 hg2
        have AN := hide (any_take_succ (fun x => inR lo hi x.pc) (s :: l) i (by rw [HN.out]; exact hi'))
        generalize ((s :: l)[i]'(by rw [HN.out]; exact hi')) = x at *
        have hlt2 : decide ((i : Int) < (N : Int)) = true := by simp; omega
        cases is
        · by_cases h1 : lo ≤ x.pc
          · by_cases h2 : x.pc < hi
            · have R := hide (show (ini || ((s :: l).take (i + 1)).any (fun x => inR lo hi x.pc)) = true by rw [AN.out, ← Bool.or_assoc, his.out]; simp [inR, h1, h2])
              have d1 : decide (lo ≤ x.pc) = true := by simpa using h1
              have d2 : decide (x.pc < hi) = true := by simpa using h2
              go_wp2_with fail
              go_roundg (N - (i + 1))
              case measure => omega
              case rel => exact ⟨i + 1, by omega, rfl, by go_num, true, rfl, R.out⟩
            · have R := hide (show (ini || ((s :: l).take (i + 1)).any (fun x => inR lo hi x.pc)) = false by rw [AN.out, ← Bool.or_assoc, his.out]; simp [inR, h2])
              have d1 : decide (lo ≤ x.pc) = true := by simpa using h1
              have d2 : decide (x.pc < hi) = false := by simpa using h2
              go_wp2_with fail
              go_roundg (N - (i + 1))
              case measure => omega
              case rel => exact ⟨i + 1, by omega, rfl, by go_num, false, rfl, R.out⟩
          · have R := hide (show (ini || ((s :: l).take (i + 1)).any (fun x => inR lo hi x.pc)) = false by rw [AN.out, ← Bool.or_assoc, his.out]; simp [inR, h1])
            have d1 : decide (lo ≤ x.pc) = false := by simpa using h1
            go_wp2_with fail
            go_roundg (N - (i + 1))
            case measure => omega
            case rel => exact ⟨i + 1, by omega, rfl, by go_num, false, rfl, R.out⟩
        · have R := hide (show (ini || ((s :: l).take (i + 1)).any (fun x => inR lo hi x.pc)) = true by rw [AN.out, ← Bool.or_assoc, his.out]; simp [inR])
          go_wp2_with fail
          go_roundg (N - (i + 1))
          case measure => omega
          case rel => exact ⟨i + 1, by omega, rfl, by go_num, true, rfl, R.out⟩
      · have hlt2 : decide ((i : Int) < (N : Int)) = false := by simp; omega
        have E := hide (show (ini || (s :: l).any (fun x => inR lo hi x.pc)) = is by
          have h := his.out
          rwa [List.take_of_length_le (by rw [HN.out]; omega)] at h)
        have EQ := hide (show (((s :: l).any fun s => inR lo hi s.pc) || ini) = is by rw [← E.out]; exact Bool.or_comm _ _)
        rw [EQ.out] at HH
        clear his
        go_wp2_with fail
        refine HH.out.mono ?_
        rintro e w6 ⟨rfl, hf⟩
        have H5 := hide (H4.out.front hf)
        clear hf HH
        simp only []
        go_wp2_with fail
        go_ret
        exact ⟨by simp, H5.out⟩
set_option maxRecDepth 100000 in
set_option maxHeartbeats 6400000 in
theorem told27_n0 (lo hi : Int) (h : FT W b qb pb sb rb pc fl ([] : List S) ep p a cap c k w) (hn : fl = true ∨ fl = false ∧ ([] : List S).length = 8) :
    Calls Try.prog 45 #[.pointer (some ⟨sb, 0, none⟩), .pointer (some ⟨b, 0, none⟩), .int .u64 lo, .int .u64 hi] w (TF W b qb pb sb rb pc fl ([] : List S) ep p a cap c k) := by
  have hW : wantsB fl ([] : List S) = false := by
    rcases hn with rfl | ⟨rfl, h8⟩
    · unfold wantsB; simp
    · exact absurd h8 (by simp)
  have HW := hide hW
  have H := hide h
  have WT := hide (fwant_no h.fs hn)
  have PK := hide (fun (w2 : World) (h2 : FT W b qb pb sb rb pc fl ([] : List S) ep p a cap c k w2) => fpeek_no h2.fs)
  have HO := hide (fun (w2 : World) (h2 : FT W b qb pb sb rb pc fl ([] : List S) ep p a cap c k w2) => fholds_no h2.fs hn lo hi)
  have WA := hide (fun (w2 : World) (h2 : FT W b qb pb sb rb pc fl ([] : List S) ep p a cap c k w2) => (wants_any w2 sb rb pc fl ([] : List S) ep p a cap c k h2.rt))
  rw [hW] at WA
  clear hW hn h
  go_enter Try.func45, Try.ntmps45
  go_wp2_with fail
  refine WT.out.mono ?_
  rintro e w1 ⟨rfl, hf⟩
  have H1 := hide (H.out.front hf)
  clear hf WT
  obtain ⟨c0, c1, c2, c3⟩ := (show _ ∧ _ ∧ _ ∧ _ from ⟨H1.out.rt.c0, H1.out.rt.c1, H1.out.rt.c2, H1.out.rt.c3⟩)
  have hlt := H1.out.rt.sc.lt
  have W1 := hide (fun n : Nat => show Calls Try.prog 54 #[.pointer (some ⟨sb, 0, none⟩)] (w1.drewN n) fun e w' => e = .returned (.bool false) ∧ w' = w1.drewN n from WA.out _ (H1.out.drewN n))
  have E1 := hide (fun n : Nat => show Calls Try.prog 44 #[.pointer (some ⟨b, 0, none⟩)] (w1.drewN n) fun e w' => e = .returned (.int .i64 ep) ∧ w' = w1.drewN n from fepoch (H1.out.drewN n).fs)
  simp only []
  go_wp2_with fail
  go_quiet ((first | (go_at_call 54; exact Calls.quiet_of_same (W1.out _)) | (go_at_call 44; exact Calls.quiet_of_same (E1.out _))))
  have H2 := hide (H1.out.drewN nq)
  generalize w1.drewN nq = w2 at *
  clear c0 c1 c2 c3 W1 E1 hlt
  go_wp2_with fail
  refine (PK.out _ H2.out).mono ?_
  rintro e w3 ⟨rfl, hf⟩
  have H3 := hide ((H2.out.front hf).alloc (.cells #[.int .u64 0, .int .u32 0, .int .i64 0, .int .u64 0, .int .i64 0] 34))
  have bx := S.five (S.box ⟨0, 0, 0, 0, 0⟩ w3)
  clear hf PK H1 H2
  simp only []
  go_wp2_with fail
  generalize w3.alloc (.cells #[.int .u64 0, .int .u32 0, .int .i64 0, .int .u64 0, .int .i64 0] 34) = w4 at *
  obtain ⟨b0, b1, b2, b3, b4⟩ := bx
  obtain ⟨c0, c1, c2, c3⟩ := (show _ ∧ _ ∧ _ ∧ _ from ⟨H3.out.rt.c0, H3.out.rt.c1, H3.out.rt.c2, H3.out.rt.c3⟩)
  go_quiet (fail)
  have H4 := hide (H3.out.drewN nq)
  generalize w4.drewN nq = w5 at *
  clear b0 b1 b2 b3 b4 c0 c1 c2 c3 H3
  obtain ⟨c0, c3⟩ := (show _ ∧ _ from ⟨H4.out.rt.c0, H4.out.rt.c3⟩)
  have hlt := H4.out.rt.sc.lt
  have W5 := hide (WA.out _ H4.out)
  go_upto_region 7 with (fail)
  go_cut [14] (fun v wc => v = .bool (false) ∧ wc = w5)
  case first =>
    go_wp2_with fail
    refine W5.out.mono ?_
    rintro e w6 ⟨rfl, rfl⟩
    simp only []
    go_wp2_with fail
    go_meet
    exact ⟨rfl, rfl⟩
  case rest =>
    obtain ⟨rfl, rfl⟩ := hcut
    have HH := hide (HO.out _ H4.out)
    go_wp2_with fail
    refine wp_loop_rounds 1 ?_
    rw [rounds_succ]
    go_wp2_with fail
    refine HH.out.mono ?_
    rintro e w6 ⟨rfl, hf⟩
    have H5 := hide (H4.out.front hf)
    clear hf HH
    simp only []
    go_wp2_with fail
    go_ret
    exact ⟨by simp, H5.out⟩
set_option maxRecDepth 100000 in
set_option maxHeartbeats 6400000 in
theorem told27_n1 (lo hi : Int) (h : FT W b qb pb sb rb pc fl (s :: l) ep p a cap c k w) (hn : fl = true ∨ fl = false ∧ (s :: l).length = 8) :
    Calls Try.prog 45 #[.pointer (some ⟨sb, 0, none⟩), .pointer (some ⟨b, 0, none⟩), .int .u64 lo, .int .u64 hi] w (TF W b qb pb sb rb pc fl (s :: l) ep p a cap c k) := by
  obtain ⟨N, hN⟩ : ∃ N, (s :: l).length = N := ⟨_, rfl⟩
  have N0 : 0 < N := by rw [← hN]; simp
  have N8 : N ≤ 8 := by rw [← hN]; exact h.len
  have HN := hide hN
  have hcap := SL.le h.rt.sl
  have hmax := SL.max h.rt.sl
  unfold maxLen at hmax
  rw [hN] at hcap
  obtain ⟨g, off, hga, -, -, -⟩ := h.rt.sl.first
  subst hga
  clear hN
  have hW : wantsB fl (s :: l) = false := by
    rcases hn with rfl | ⟨rfl, h8⟩
    · unfold wantsB; simp
    · unfold wantsB; rw [h8]; rfl
  have HW := hide hW
  have H := hide h
  have WT := hide (fwant_no h.fs hn)
  have PK := hide (fun (w2 : World) (h2 : FT W b qb pb sb rb pc fl (s :: l) ep p (some ⟨g, off, none⟩) cap c k w2) => fpeek_yes h2.fs)
  have HO := hide (fun (w2 : World) (h2 : FT W b qb pb sb rb pc fl (s :: l) ep p (some ⟨g, off, none⟩) cap c k w2) => fholds_no h2.fs hn lo hi)
  have WA := hide (fun (w2 : World) (h2 : FT W b qb pb sb rb pc fl (s :: l) ep p (some ⟨g, off, none⟩) cap c k w2) => (wants_any w2 sb rb pc fl (s :: l) ep p (some ⟨g, off, none⟩) cap c k h2.rt))
  rw [hW] at WA
  clear hW hn h
  go_enter Try.func45, Try.ntmps45
  go_wp2_with fail
  refine WT.out.mono ?_
  rintro e w1 ⟨rfl, hf⟩
  have H1 := hide (H.out.front hf)
  clear hf WT
  obtain ⟨c0, c1, c2, c3⟩ := (show _ ∧ _ ∧ _ ∧ _ from ⟨H1.out.rt.c0, H1.out.rt.c1, H1.out.rt.c2, H1.out.rt.c3⟩)
  rw [HN.out] at c3
  have hlt := H1.out.rt.sc.lt
  have W1 := hide (fun n : Nat => show Calls Try.prog 54 #[.pointer (some ⟨sb, 0, none⟩)] (w1.drewN n) fun e w' => e = .returned (.bool false) ∧ w' = w1.drewN n from WA.out _ (H1.out.drewN n))
  have E1 := hide (fun n : Nat => show Calls Try.prog 44 #[.pointer (some ⟨b, 0, none⟩)] (w1.drewN n) fun e w' => e = .returned (.int .i64 ep) ∧ w' = w1.drewN n from fepoch (H1.out.drewN n).fs)
  simp only []
  go_wp2_with fail
  go_quiet ((first | (go_at_call 54; exact Calls.quiet_of_same (W1.out _)) | (go_at_call 44; exact Calls.quiet_of_same (E1.out _))))
  have H2 := hide (H1.out.drewN nq)
  generalize w1.drewN nq = w2 at *
  clear c0 c1 c2 c3 W1 E1 hlt
  go_wp2_with fail
  refine (PK.out _ H2.out).mono ?_
  rintro e w3 ⟨rfl, hf⟩
  have H3 := hide ((H2.out.front hf).alloc (.cells #[.int .u64 s.pc, .int .u32 s.bits, .int .i64 s.fault, .int .u64 s.next, .int .i64 s.epoch] 34))
  have bx := S.five (S.box s w3)
  clear hf PK H1 H2
  simp only []
  go_wp2_with fail
  generalize w3.alloc (.cells #[.int .u64 s.pc, .int .u32 s.bits, .int .i64 s.fault, .int .u64 s.next, .int .i64 s.epoch] 34) = w4 at *
  obtain ⟨b0, b1, b2, b3, b4⟩ := bx
  obtain ⟨c0, c1, c2, c3⟩ := (show _ ∧ _ ∧ _ ∧ _ from ⟨H3.out.rt.c0, H3.out.rt.c1, H3.out.rt.c2, H3.out.rt.c3⟩)
  rw [HN.out] at c3
  have hd : decide ((0 : Int) < (N : Int)) = true := by simpa using N0
  obtain ⟨g', off', hge, -, -, s0, s1, s2, s3, s4⟩ := H3.out.rt.sl.first
  injection hge with hge
  injection hge with hg1 hg2
  subst hg1 hg2
  go_quiet (fail)
  have H4 := hide (H3.out.drewN nq)
  generalize w4.drewN nq = w5 at *
  clear b0 b1 b2 b3 b4 c0 c1 c2 c3 H3 s0 s1 s2 s3 s4 hd
  obtain ⟨c0, c3⟩ := (show _ ∧ _ from ⟨H4.out.rt.c0, H4.out.rt.c3⟩)
  rw [HN.out] at c3
  have hlt := H4.out.rt.sc.lt
  have W5 := hide (WA.out _ H4.out)
  go_upto_region 7 with (fail)
  go_cut [14] (fun v wc => v = .bool (false) ∧ wc = w5)
  case first =>
    go_wp2_with fail
    refine W5.out.mono ?_
    rintro e w6 ⟨rfl, rfl⟩
    simp only []
    go_wp2_with fail
    go_meet
    exact ⟨rfl, rfl⟩
  case rest =>
    obtain ⟨rfl, rfl⟩ := hcut
    have HH := hide (HO.out _ H4.out)
    go_wp2_with fail
    go_loopg [14, 15] N (fun gg vis vi wr => ∃ i : Nat, i + gg = N ∧ wr = wc ∧ vi = .int .i64 i ∧ ∃ is : Bool, vis = .bool is ∧ Hid ((false || ((s :: l).take i).any (fun x => inR lo hi x.pc)) = is))
    case atStart => exact ⟨0, by omega, rfl, rfl, false, rfl, by show (false || false) = false; simp⟩
    case round =>
      obtain ⟨i, hig, rfl, rfl, is, rfl, his⟩ := hrel
      by_cases hi' : i < N
      · obtain ⟨g', off', hge, -, -, s0, -⟩ := H4.out.rt.sl.at_ i (by rw [HN.out]; exact hi')
        injection hge with hge
        injection hge with hg1 hg2
        subst hg1 hg2
        have AN := hide (any_take_succ (fun x => inR lo hi x.pc) (s :: l) i (by rw [HN.out]; exact hi'))
        generalize ((s :: l)[i]'(by rw [HN.out]; exact hi')) = x at *
        have hlt2 : decide ((i : Int) < (N : Int)) = true := by simp; omega
        cases is
        · by_cases h1 : lo ≤ x.pc
          · by_cases h2 : x.pc < hi
            · have R := hide (show (false || ((s :: l).take (i + 1)).any (fun x => inR lo hi x.pc)) = true by rw [AN.out, ← Bool.or_assoc, his.out]; simp [inR, h1, h2])
              have d1 : decide (lo ≤ x.pc) = true := by simpa using h1
              have d2 : decide (x.pc < hi) = true := by simpa using h2
              go_wp2_with fail
              go_roundg (N - (i + 1))
              case measure => omega
              case rel => exact ⟨i + 1, by omega, rfl, by go_num, true, rfl, R.out⟩
            · have R := hide (show (false || ((s :: l).take (i + 1)).any (fun x => inR lo hi x.pc)) = false by rw [AN.out, ← Bool.or_assoc, his.out]; simp [inR, h2])
              have d1 : decide (lo ≤ x.pc) = true := by simpa using h1
              have d2 : decide (x.pc < hi) = false := by simpa using h2
              go_wp2_with fail
              go_roundg (N - (i + 1))
              case measure => omega
              case rel => exact ⟨i + 1, by omega, rfl, by go_num, false, rfl, R.out⟩
          · have R := hide (show (false || ((s :: l).take (i + 1)).any (fun x => inR lo hi x.pc)) = false by rw [AN.out, ← Bool.or_assoc, his.out]; simp [inR, h1])
            have d1 : decide (lo ≤ x.pc) = false := by simpa using h1
            go_wp2_with fail
            go_roundg (N - (i + 1))
            case measure => omega
            case rel => exact ⟨i + 1, by omega, rfl, by go_num, false, rfl, R.out⟩
        · have R := hide (show (false || ((s :: l).take (i + 1)).any (fun x => inR lo hi x.pc)) = true by rw [AN.out, ← Bool.or_assoc, his.out]; simp [inR])
          go_wp2_with fail
          go_roundg (N - (i + 1))
          case measure => omega
          case rel => exact ⟨i + 1, by omega, rfl, by go_num, true, rfl, R.out⟩
      · have hlt2 : decide ((i : Int) < (N : Int)) = false := by simp; omega
        have E := hide (show (false || (s :: l).any (fun x => inR lo hi x.pc)) = is by
          have h := his.out
          rwa [List.take_of_length_le (by rw [HN.out]; omega)] at h)
        have EQ := hide (show (((s :: l).any fun s => inR lo hi s.pc)) = is by rw [← E.out]; simp)
        rw [EQ.out] at HH
        clear his
        go_wp2_with fail
        refine HH.out.mono ?_
        rintro e w6 ⟨rfl, hf⟩
        have H5 := hide (H4.out.front hf)
        clear hf HH
        simp only []
        go_wp2_with fail
        go_ret
        exact ⟨by simp, H5.out⟩
theorem told27 (lo hi : Int) {L : List S} (h : FT W b qb pb sb rb pc fl L ep p a cap c k w) :
    Calls Try.prog 45 #[.pointer (some ⟨sb, 0, none⟩), .pointer (some ⟨b, 0, none⟩), .int .u64 lo, .int .u64 hi] w (TF W b qb pb sb rb pc fl L ep p a cap c k) := by
  have h8 := h.len
  by_cases hy : fl = false ∧ L.length < 8
  · obtain ⟨rfl, hn⟩ := hy
    cases L with
    | nil => exact told27_y0 lo hi h hn
    | cons s l => exact told27_y1 lo hi h hn
  · have hn : fl = true ∨ fl = false ∧ L.length = 8 := by
      cases fl
      · exact .inr ⟨rfl, by simp at hy; omega⟩
      · exact .inl rfl
    cases L with
    | nil => exact told27_n0 lo hi h hn
    | cons s l => exact told27_n1 lo hi h hn
end
end Go.Proofs.Ytkjgklpdoomjcaa.Wide

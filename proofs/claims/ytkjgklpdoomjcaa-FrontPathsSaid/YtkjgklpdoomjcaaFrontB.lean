/- CONTRACTS OF front.Front: Got, Take, Turn, Learn, Epoch; awake; the nil one. -/
import Derived.Test.YtkjgklpdoomjcaaFrontA
namespace Go.Proofs.Ytkjgklpdoomjcaa
open Go.RowKit
set_option linter.unusedVariables false
set_option linter.unusedSimpArgs false
set_option maxHeartbeats 3200000
variable {W w w' : World} {b qb pb : Nat} {pc : Int} {ended : Bool} {l : List S} {ep : Nat} {p : P}
set_option maxRecDepth 100000 in
theorem fgot_ok (h : FS W w b qb pb pc false l ep p) (hn : l.length < 8) (bits : Int) (p0 : 0 ≤ pc) (p1 : pc < 18446744073709551616) :
    Calls Try.prog 40 #[.pointer (some ⟨b, 0, none⟩), .int .u64 pc, .int .i64 ep, .int .u32 bits, .int .i64 0] w (FR (.int .i64 0) W b qb pb (p.guess pc).2 false (l ++ [⟨pc, bits, 0, (p.guess pc).2, ep⟩]) ep p) := by
  have WT := hide (fwant_yes h hn)
  have GU := hide (fun (w2 : World) (hp : PAt w2 pb p) => guess_any pb pc w2 p hp p0 p1)
  have PU := hide (fun (w2 : World) (nx : Int) (hq : QL w2 qb l 8 ep) => lpush_ok ⟨pc, bits, 0, nx, ep⟩ hq hn rfl)
  clear h hn
  have q' : ∀ n : Int, (n == n) = true := fun n => by simp
  go_enter Try.func40, Try.ntmps40
  go_wp2_with fail
  refine WT.out.mono ?_
  rintro e w1 ⟨rfl, hf⟩
  have H1 := hide hf
  clear hf
  obtain ⟨f0, f1, f2, f3, f4, ff, fl⟩ := H1.out.fa
  simp only []
  go_wp2_with fail
  have BX := hide (fun (w2 : World) (hg : (w1.alloc (.cells #[.int .u64 pc, .int .u32 bits, .int .i64 0, .int .u64 (IntKind.u64.wrap (pc + 4)), .int .i64 ep] 34)).grownBy w2 Option.none) => box5 hg (by simp))
  have HA := hide (H1.out.alloc (.cells #[.int .u64 pc, .int .u32 bits, .int .i64 0, .int .u64 (IntKind.u64.wrap (pc + 4)), .int .i64 ep] 34))
  refine (GU.out _ HA.out.pa).mono ?_
  rintro e w2 ⟨rfl, hg, hp⟩
  have H2 := hide (HA.out.keep hg)
  have XB := hide (BX.out _ hg)
  have cb1 : b < w1.heap.size := fl
  have cb2 : qb < w1.heap.size := H1.out.ql.lt
  have cb3 : pb < w1.heap.size := H1.out.pa.lt
  have hne1 : ¬ (w1.heap.size = b) := by omega
  have hne2 : ¬ (b = w1.heap.size) := by omega
  have hgb : W.heap.size ≤ w1.heap.size := H1.out.big
  clear hg hp f0 f1 f2 f3 f4 ff fl BX
  generalize hnx : (p.guess pc).2 = nx at *
  generalize (p.guess pc).1 = tk at *
  clear hnx
  have H3 := hide ((H2.out.box (o := 3) (by omega) (by omega) (by omega) hgb (.int .u64 nx)).set nx false)
  clear cb1 cb2 cb3 hgb
  have PV := hide (PU.out _ nx H3.out.drew.ql)
  have HK := hide (fun (w9 : World) (hg : (((w2.setCell ⟨w1.heap.size, 3, .none⟩ (.int .u64 nx)).setCell ⟨b, 3, .none⟩ (.int .u64 nx)).setCell ⟨b, 4, .none⟩ (.bool false)).drew.grownBy w9 (some qb)) (hq : QL w9 qb (l ++ [⟨pc, bits, 0, nx, ep⟩]) 8 ep) => H3.out.drew.queue hg hq)
  obtain ⟨f0, f1, f2, f3, f4, ff, fl⟩ := H2.out.fa
  obtain ⟨x0, x1, x2, x3, x4, xf, xl⟩ := XB.out
  have hfd : ∀ w : World, (Instr.field 46 (.agg #[.bool tk, .int .u64 nx]) 1).run Try.prog w = .ok (.int .u64 nx) w := fun _ => by kernel_rfl
  simp only []
  go_wp2_with fail
  go_region_with (go_at_call 20; refine (PV.out).mono ?_; rintro e w9 ⟨rfl, hg, hq⟩; have H9 := hide (HK.out _ hg hq); clear hg hq; simp only [])
  all_goals
    go_wp2_with fail
    go_ret
    exact ⟨rfl, H9.out⟩
set_option maxRecDepth 100000 in
theorem fgot_fault (h : FS W w b qb pb pc false l ep p) (hn : l.length < 8) (bits fault : Int) (hf : fault ≠ 0) :
    Calls Try.prog 40 #[.pointer (some ⟨b, 0, none⟩), .int .u64 pc, .int .i64 ep, .int .u32 bits, .int .i64 fault] w (FR (.int .i64 0) W b qb pb (np pc) true (l ++ [⟨pc, 0, fault, np pc, ep⟩]) ep p) := by
  have WT := hide (fwant_yes h hn)
  have PU := hide (fun (w2 : World) (nx : Int) (hq : QL w2 qb l 8 ep) => lpush_ok ⟨pc, 0, fault, nx, ep⟩ hq hn rfl)
  clear h hn
  have q' : ∀ n : Int, (n == n) = true := fun n => by simp
  have t1 : (fault == 0) = false := beq_eq_false_iff_ne.2 hf
  have t2 : (fault != 0) = true := by simpa using hf
  unfold np
  generalize hnx : IntKind.u64.wrap (pc + 4) = nx at *
  go_enter Try.func40, Try.ntmps40
  go_wp2_with fail
  refine WT.out.mono ?_
  rintro e w1 ⟨rfl, hf1⟩
  have H1 := hide hf1
  clear hf1
  have H3 := hide ((H1.out.set nx true).alloc (.cells #[.int .u64 pc, .int .u32 0, .int .i64 fault, .int .u64 nx, .int .i64 ep] 34))
  have PV := hide (PU.out _ nx H3.out.drew.ql)
  have HK := hide (fun (w9 : World) (hg : (((w1.setCell ⟨b, 3, .none⟩ (.int .u64 nx)).setCell ⟨b, 4, .none⟩ (.bool true)).alloc (.cells #[.int .u64 pc, .int .u32 0, .int .i64 fault, .int .u64 nx, .int .i64 ep] 34)).drew.grownBy w9 (some qb)) (hq : QL w9 qb (l ++ [⟨pc, 0, fault, nx, ep⟩]) 8 ep) => H3.out.drew.queue hg hq)
  obtain ⟨f0, f1, f2, f3, f4, ff, fl⟩ := H1.out.fa
  have cb1 : b < w1.heap.size := fl
  have hne1 : ¬ (w1.heap.size = b) := by omega
  have hne2 : ¬ (b = w1.heap.size) := by omega
  simp only []
  go_wp2_with fail
  go_region_with (go_at_call 20; refine (PV.out).mono ?_; rintro e w9 ⟨rfl, hg, hq⟩; have H9 := hide (HK.out _ hg hq); clear hg hq; simp only [])
  all_goals
    go_wp2_with fail
    go_ret
    exact ⟨rfl, H9.out⟩
/-- Not wanted, or another one is. -/
theorem fgot_no (h : FS W w b qb pb pc ended l ep p) (a ae bits fault : Int) (hn : (ended = true ∨ ended = false ∧ l.length = 8) ∨ (ended = false ∧ l.length < 8 ∧ (pc ≠ a ∨ pc = a ∧ (ep : Int) ≠ ae))) :
    Calls Try.prog 40 #[.pointer (some ⟨b, 0, none⟩), .int .u64 a, .int .i64 ae, .int .u32 bits, .int .i64 fault] w (FR (.int .i64 7) W b qb pb pc ended l ep p) := by
  rcases hn with hn | ⟨rfl, hn, hm⟩
  · have WT := hide (fwant_no h hn)
    clear h hn
    go_enter Try.func40, Try.ntmps40
    go_wp2_with fail
    refine WT.out.mono ?_
    rintro e w1 ⟨rfl, hf1⟩
    have H1 := hide hf1
    clear hf1
    simp only []
    go_wp2_with fail
    go_ret
    exact ⟨rfl, H1.out⟩
  · have WT := hide (fwant_yes h hn)
    clear h hn
    have q' : ∀ n : Int, (n != n) = false := fun n => by simp
    rcases hm with hm | ⟨rfl, hm⟩
    · have t1 : (pc != a) = true := by simpa using hm
      go_enter Try.func40, Try.ntmps40
      go_wp2_with fail
      refine WT.out.mono ?_
      rintro e w1 ⟨rfl, hf1⟩
      have H1 := hide hf1
      clear hf1
      simp only []
      go_wp2_with fail
      go_ret
      exact ⟨rfl, H1.out⟩
    · have t1 : ((ep : Int) != ae) = true := by simpa using hm
      go_enter Try.func40, Try.ntmps40
      go_wp2_with fail
      refine WT.out.mono ?_
      rintro e w1 ⟨rfl, hf1⟩
      have H1 := hide hf1
      clear hf1
      simp only []
      go_wp2_with fail
      go_ret
      exact ⟨rfl, H1.out⟩
set_option maxRecDepth 100000 in
theorem awake38 (W : World) : Calls Try.prog 38 #[] W fun e w' => e = .returned (.bool true) ∧ Below W.heap.size W w' := by
  have N := hide (fnew W 0 4096 (by omega) (by omega))
  go_enter Try.func38, Try.ntmps38
  go_wp2_with fail
  refine N.out.mono ?_
  rintro e w1 ⟨b, qb, pb, rfl, hf⟩
  have WT := hide (fwant_yes hf (by simp))
  have GT := hide (fun (w2 : World) (h : FS W w2 b qb pb 4096 false [] 0 (P.new 0)) => fgot_ok h (by simp) 19 (by omega) (by omega))
  clear hf
  simp only []
  go_wp2_with fail
  refine WT.out.mono ?_
  rintro e w2 ⟨rfl, hf⟩
  have G2 := hide (GT.out _ hf)
  clear hf
  simp only []
  go_wp2_with fail
  refine G2.out.mono ?_
  rintro e w3 ⟨rfl, hf⟩
  have B3 := hide hf.bel
  clear hf
  simp only []
  go_wp2_with fail
  go_ret
  exact ⟨rfl, B3.out⟩
end Go.Proofs.Ytkjgklpdoomjcaa


/- Contracts of front.Front against any world: Holds. -/
import Derived.Test.YtkjgklpdoomjcaaFrtD
namespace Go.Proofs.Ytkjgklpdoomjcaa.Wide
open Go.RowKit
set_option linter.unusedVariables false
set_option linter.unusedSimpArgs false
set_option maxHeartbeats 3200000
section
variable {W w w' : World} {b qb pb : Nat} {pc : Int} {ended : Bool} {l : List S} {ep : Nat} {p : P}
set_option maxRecDepth 100000 in
theorem fholds_no (h : FS W w b qb pb pc ended l ep p) (hn : ended = true ∨ ended = false ∧ l.length = 8) (lo hi : Int) : Calls Try.prog 48 #[.pointer (some ⟨b, 0, none⟩), .int .u64 lo, .int .u64 hi] w (FR (.bool (l.any fun s => inR lo hi s.pc)) W b qb pb pc ended l ep p) := by
  have WT := hide (fwant_no h hn)
  have LH := hide (fun (w2 : World) (hq : QL w2 qb l 8 ep) => lholds lo hi hq)
  clear h
  unfold inR at *
  generalize hany : (l.any fun s => decide (lo ≤ s.pc) && decide (s.pc < hi)) = an at *
  clear hany
  cases an
  all_goals
    go_enter Try.func48, Try.ntmps48
    go_wp2_with fail
    refine WT.out.mono ?_
    rintro e w1 ⟨rfl, hf⟩
    have H1 := hide hf
    clear hf
    obtain ⟨f0, f1, f2, f3, f4, ff, fl⟩ := H1.out.fa
    simp only []
    go_wp2_with fail
    refine (LH.out _ H1.out.ql).mono ?_
    rintro e w2 ⟨rfl, k, rfl⟩
    have H2 := hide (H1.out.drewN k)
    clear f0 f1 f2 f3 f4 ff fl
    generalize World.drewN w1 k = w3 at *
    simp only []
    go_wp2_with fail
    go_ret
    exact ⟨rfl, H2.out⟩
set_option maxRecDepth 100000 in
theorem fholds_yes (h : FS W w b qb pb pc false l ep p) (hn : l.length < 8) (lo hi : Int) : Calls Try.prog 48 #[.pointer (some ⟨b, 0, none⟩), .int .u64 lo, .int .u64 hi] w (FR (.bool ((l.any fun s => inR lo hi s.pc) || inR lo hi pc)) W b qb pb pc false l ep p) := by
  have WT := hide (fwant_yes h hn)
  have LH := hide (fun (w2 : World) (hq : QL w2 qb l 8 ep) => lholds lo hi hq)
  clear h
  unfold inR at *
  generalize hany : (l.any fun s => decide (lo ≤ s.pc) && decide (s.pc < hi)) = an at *
  clear hany
  generalize h1 : decide (lo ≤ pc) = b1 at *
  generalize h2 : decide (pc < hi) = b2 at *
  cases an <;> cases b1 <;> cases b2
  all_goals
    go_enter Try.func48, Try.ntmps48
    go_wp2_with fail
    refine WT.out.mono ?_
    rintro e w1 ⟨rfl, hf⟩
    have H1 := hide hf
    clear hf
    obtain ⟨f0, f1, f2, f3, f4, ff, fl⟩ := H1.out.fa
    simp only []
    go_wp2_with fail
    refine (LH.out _ H1.out.ql).mono ?_
    rintro e w2 ⟨rfl, k, rfl⟩
    have H2 := hide (H1.out.drewN k)
    clear f0 f1 f2 f3 f4 ff fl
    generalize World.drewN w1 k = w3 at *
    simp only []
    go_wp2_with fail
    go_ret
    exact ⟨rfl, H2.out⟩
end
end Go.Proofs.Ytkjgklpdoomjcaa.Wide

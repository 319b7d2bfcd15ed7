/-
  No cell of these rows narrows 'for every input' (looked for: loops, veiled, ifaces, maps, wideKeys, modest, calm, conditions, laid).
  DERIVED. THE GIVEN ROWS OF THIS SEAT. 8 by the template 'for every input the law returns true; each argument reads behind the call as it read before'; 0 by the template 'total and deterministic' (their statements: YtnncifcfgjphlaaTotals.lean).
  GIVEN WITH THE SEED: the statements are not yours to turn. If you find one false, say at which input.
  Laid BY PROGRAM, IN A SANDBOX (cutbox-rows.mjs): the forced cells as the released guide's own fill.sh prints them over the translation e13fef67eeafe400… (all of the seat's roots in one cut). By AI agents, Wed Nov 11 2026. No macro, syntax, notation, axiom, sorry.
-/
import Derived.Test.YtnncifcfgjphlaaChecked
import GoSem.Claim
import GoSem.ClaimJoined
import GoSem.ClaimMapViews
import Derived.JoinedTies
import Derived.KernelRfl
namespace Go.Proofs.Ytnncifcfgjphlaa
/- THE CELL 'sum', in the pinned program and in every row, IS THE sha256 OF THE DUMP (.gsa) THAT YtnncifcfgjphlaaProg.lean LOADS. Nothing in Lean hashes anything: it is a label: what it is worth is what the hold of that sum in a sandbox is worth. -/
noncomputable def Try.pinned : Pinned := { name := "ytnncifcfgjphlaa", sum := "e13fef67eeafe4009b01d7d1caea18da06b3862ae7bdf94767898773c31c81a8", checked := Try.checked }
namespace Rows
def none {H : Type} : Left H := { results := [], args := [] }

/-- 'tappetlaw04.AluReckons': WHATEVER THE INPUT: true; the input reads as it did. -/
def aluReckonsSpec : ChangeSpec := { name := "aluReckons", fn := fun _ => fun
  | [d1, d2, d3, d4] => { results := [.lit (.bool true)], args := [d1, d2, d3, d4] }
  | _ => none }
def aluReckonsRow : OpenClaim := { program := "ytnncifcfgjphlaa", sum := "e13fef67eeafe4009b01d7d1caea18da06b3862ae7bdf94767898773c31c81a8", func := "tappet/tappetlaw04.AluReckons", spec := "aluReckons", apart := false }
def AluReckonsSaid : Prop := aluReckonsRow.holds Try.pinned (OpenSpec.ofChange aluReckonsSpec)

/-- ITS FALSE NEIGHBOUR: 'it returns false'. Refute it at one input. -/
def aluReckonsWrong : ChangeSpec := { name := "aluReckons", fn := fun _ => fun
  | [d1, d2, d3, d4] => { results := [.lit (.bool false)], args := [d1, d2, d3, d4] }
  | _ => none }
def AluReckonsWrongFalsely : Prop := aluReckonsRow.holds Try.pinned (OpenSpec.ofChange aluReckonsWrong)

/-- 'tappetlaw04.AluSums': WHATEVER THE INPUT: true; the input reads as it did. -/
def aluSumsSpec : ChangeSpec := { name := "aluSums", fn := fun _ => fun
  | [d1, d2, d3] => { results := [.lit (.bool true)], args := [d1, d2, d3] }
  | _ => none }
def aluSumsRow : OpenClaim := { program := "ytnncifcfgjphlaa", sum := "e13fef67eeafe4009b01d7d1caea18da06b3862ae7bdf94767898773c31c81a8", func := "tappet/tappetlaw04.AluSums", spec := "aluSums", apart := false }
def AluSumsSaid : Prop := aluSumsRow.holds Try.pinned (OpenSpec.ofChange aluSumsSpec)

/-- ITS FALSE NEIGHBOUR: 'it returns false'. Refute it at one input. -/
def aluSumsWrong : ChangeSpec := { name := "aluSums", fn := fun _ => fun
  | [d1, d2, d3] => { results := [.lit (.bool false)], args := [d1, d2, d3] }
  | _ => none }
def AluSumsWrongFalsely : Prop := aluSumsRow.holds Try.pinned (OpenSpec.ofChange aluSumsWrong)

/-- 'tappetlaw04.AluShifts': WHATEVER THE INPUT: true; the input reads as it did. -/
def aluShiftsSpec : ChangeSpec := { name := "aluShifts", fn := fun _ => fun
  | [d1, d2, d3] => { results := [.lit (.bool true)], args := [d1, d2, d3] }
  | _ => none }
def aluShiftsRow : OpenClaim := { program := "ytnncifcfgjphlaa", sum := "e13fef67eeafe4009b01d7d1caea18da06b3862ae7bdf94767898773c31c81a8", func := "tappet/tappetlaw04.AluShifts", spec := "aluShifts", apart := false }
def AluShiftsSaid : Prop := aluShiftsRow.holds Try.pinned (OpenSpec.ofChange aluShiftsSpec)

/-- ITS FALSE NEIGHBOUR: 'it returns false'. Refute it at one input. -/
def aluShiftsWrong : ChangeSpec := { name := "aluShifts", fn := fun _ => fun
  | [d1, d2, d3] => { results := [.lit (.bool false)], args := [d1, d2, d3] }
  | _ => none }
def AluShiftsWrongFalsely : Prop := aluShiftsRow.holds Try.pinned (OpenSpec.ofChange aluShiftsWrong)

/-- 'tappetlaw04.AluOrders': WHATEVER THE INPUT: true; the input reads as it did. -/
def aluOrdersSpec : ChangeSpec := { name := "aluOrders", fn := fun _ => fun
  | [d1, d2] => { results := [.lit (.bool true)], args := [d1, d2] }
  | _ => none }
def aluOrdersRow : OpenClaim := { program := "ytnncifcfgjphlaa", sum := "e13fef67eeafe4009b01d7d1caea18da06b3862ae7bdf94767898773c31c81a8", func := "tappet/tappetlaw04.AluOrders", spec := "aluOrders", apart := false }
def AluOrdersSaid : Prop := aluOrdersRow.holds Try.pinned (OpenSpec.ofChange aluOrdersSpec)

/-- ITS FALSE NEIGHBOUR: 'it returns false'. Refute it at one input. -/
def aluOrdersWrong : ChangeSpec := { name := "aluOrders", fn := fun _ => fun
  | [d1, d2] => { results := [.lit (.bool false)], args := [d1, d2] }
  | _ => none }
def AluOrdersWrongFalsely : Prop := aluOrdersRow.holds Try.pinned (OpenSpec.ofChange aluOrdersWrong)

/-- 'tappetlaw04.AluBits': WHATEVER THE INPUT: true; the input reads as it did. -/
def aluBitsSpec : ChangeSpec := { name := "aluBits", fn := fun _ => fun
  | [d1, d2] => { results := [.lit (.bool true)], args := [d1, d2] }
  | _ => none }
def aluBitsRow : OpenClaim := { program := "ytnncifcfgjphlaa", sum := "e13fef67eeafe4009b01d7d1caea18da06b3862ae7bdf94767898773c31c81a8", func := "tappet/tappetlaw04.AluBits", spec := "aluBits", apart := false }
def AluBitsSaid : Prop := aluBitsRow.holds Try.pinned (OpenSpec.ofChange aluBitsSpec)

/-- ITS FALSE NEIGHBOUR: 'it returns false'. Refute it at one input. -/
def aluBitsWrong : ChangeSpec := { name := "aluBits", fn := fun _ => fun
  | [d1, d2] => { results := [.lit (.bool false)], args := [d1, d2] }
  | _ => none }
def AluBitsWrongFalsely : Prop := aluBitsRow.holds Try.pinned (OpenSpec.ofChange aluBitsWrong)

/-- 'tappetlaw04.AluWords': WHATEVER THE INPUT: true; the input reads as it did. -/
def aluWordsSpec : ChangeSpec := { name := "aluWords", fn := fun _ => fun
  | [d1, d2, d3, d4, d5] => { results := [.lit (.bool true)], args := [d1, d2, d3, d4, d5] }
  | _ => none }
def aluWordsRow : OpenClaim := { program := "ytnncifcfgjphlaa", sum := "e13fef67eeafe4009b01d7d1caea18da06b3862ae7bdf94767898773c31c81a8", func := "tappet/tappetlaw04.AluWords", spec := "aluWords", apart := false }
def AluWordsSaid : Prop := aluWordsRow.holds Try.pinned (OpenSpec.ofChange aluWordsSpec)

/-- ITS FALSE NEIGHBOUR: 'it returns false'. Refute it at one input. -/
def aluWordsWrong : ChangeSpec := { name := "aluWords", fn := fun _ => fun
  | [d1, d2, d3, d4, d5] => { results := [.lit (.bool false)], args := [d1, d2, d3, d4, d5] }
  | _ => none }
def AluWordsWrongFalsely : Prop := aluWordsRow.holds Try.pinned (OpenSpec.ofChange aluWordsWrong)

/-- 'tappetlaw04.AluBranches': WHATEVER THE INPUT: true; the input reads as it did. -/
def aluBranchesSpec : ChangeSpec := { name := "aluBranches", fn := fun _ => fun
  | [d1, d2, d3, d4, d5] => { results := [.lit (.bool true)], args := [d1, d2, d3, d4, d5] }
  | _ => none }
def aluBranchesRow : OpenClaim := { program := "ytnncifcfgjphlaa", sum := "e13fef67eeafe4009b01d7d1caea18da06b3862ae7bdf94767898773c31c81a8", func := "tappet/tappetlaw04.AluBranches", spec := "aluBranches", apart := false }
def AluBranchesSaid : Prop := aluBranchesRow.holds Try.pinned (OpenSpec.ofChange aluBranchesSpec)

/-- ITS FALSE NEIGHBOUR: 'it returns false'. Refute it at one input. -/
def aluBranchesWrong : ChangeSpec := { name := "aluBranches", fn := fun _ => fun
  | [d1, d2, d3, d4, d5] => { results := [.lit (.bool false)], args := [d1, d2, d3, d4, d5] }
  | _ => none }
def AluBranchesWrongFalsely : Prop := aluBranchesRow.holds Try.pinned (OpenSpec.ofChange aluBranchesWrong)

/-- 'tappetlaw04.AluJumps': WHATEVER THE INPUT: true; the input reads as it did. -/
def aluJumpsSpec : ChangeSpec := { name := "aluJumps", fn := fun _ => fun
  | [d1, d2, d3] => { results := [.lit (.bool true)], args := [d1, d2, d3] }
  | _ => none }
def aluJumpsRow : OpenClaim := { program := "ytnncifcfgjphlaa", sum := "e13fef67eeafe4009b01d7d1caea18da06b3862ae7bdf94767898773c31c81a8", func := "tappet/tappetlaw04.AluJumps", spec := "aluJumps", apart := false }
def AluJumpsSaid : Prop := aluJumpsRow.holds Try.pinned (OpenSpec.ofChange aluJumpsSpec)

/-- ITS FALSE NEIGHBOUR: 'it returns false'. Refute it at one input. -/
def aluJumpsWrong : ChangeSpec := { name := "aluJumps", fn := fun _ => fun
  | [d1, d2, d3] => { results := [.lit (.bool false)], args := [d1, d2, d3] }
  | _ => none }
def AluJumpsWrongFalsely : Prop := aluJumpsRow.holds Try.pinned (OpenSpec.ofChange aluJumpsWrong)

/- THE SECOND FORM. 'bulk': how many values and letters a reading holds, each counted each time it is reached (what is shared counts as often as it is met; a slice's spare places count too). A statement '..UptoSaid' is the law's where the arguments, and the package variables that the reading takes, are together of bulk at most 1048576: NARROWER than '..Said'. Prove '..Said' where nothing that the law and all that it calls make is longer than what came in: it says more and counts as full. Else prove '..UptoSaid'. A law counts once. -/
mutual
def uptoBulk {H : Type} : DataW H → Nat
  | .lit (.string bytes) => bytes.length + 1
  | .lit _ => 1
  | .nil => 1
  | .ptr d => uptoBulk d + 1
  | .slice elems spare => uptoBulkAll elems + uptoBulkAll spare + 1
  | .agg parts => uptoBulkAll parts + 1
  | .iface _ d => uptoBulk d + 1
  | .map entries => uptoBulkEntries entries + 1
  | .held _ => 1
def uptoBulkAll {H : Type} : List (DataW H) → Nat
  | [] => 0
  | d :: r => uptoBulk d + uptoBulkAll r
def uptoBulkEntries {H : Type} : List (Lit × DataW H) → Nat
  | [] => 0
  | x :: r => uptoBulkEntry x + uptoBulkEntries r
def uptoBulkEntry {H : Type} : Lit × DataW H → Nat
  | (.string bytes, d) => bytes.length + uptoBulk d + 1
  | (_, d) => uptoBulk d + 1
 end
def uptoSmall : (H : Type) → List (DataW H) → Bool := fun _ ds => decide (uptoBulkAll ds ≤ 1048576)
def OpenSpec.upto (s : _root_.Go.ChangeSpec) : _root_.Go.OpenSpec := { _root_.Go.OpenSpec.ofChange s with cond := some uptoSmall }

/-- 'tappetlaw04.AluReckons', WHERE WHAT IT READS IS OF BULK AT MOST 1048576: true; the input reads as it did. -/
def aluReckonsUptoRow : OpenClaim := { program := "ytnncifcfgjphlaa", sum := "e13fef67eeafe4009b01d7d1caea18da06b3862ae7bdf94767898773c31c81a8", func := "tappet/tappetlaw04.AluReckons", spec := "aluReckons", apart := false, narrowed := true }
def AluReckonsUptoSaid : Prop := aluReckonsUptoRow.holds Try.pinned (OpenSpec.upto aluReckonsSpec)

/-- 'tappetlaw04.AluSums', WHERE WHAT IT READS IS OF BULK AT MOST 1048576: true; the input reads as it did. -/
def aluSumsUptoRow : OpenClaim := { program := "ytnncifcfgjphlaa", sum := "e13fef67eeafe4009b01d7d1caea18da06b3862ae7bdf94767898773c31c81a8", func := "tappet/tappetlaw04.AluSums", spec := "aluSums", apart := false, narrowed := true }
def AluSumsUptoSaid : Prop := aluSumsUptoRow.holds Try.pinned (OpenSpec.upto aluSumsSpec)

/-- 'tappetlaw04.AluShifts', WHERE WHAT IT READS IS OF BULK AT MOST 1048576: true; the input reads as it did. -/
def aluShiftsUptoRow : OpenClaim := { program := "ytnncifcfgjphlaa", sum := "e13fef67eeafe4009b01d7d1caea18da06b3862ae7bdf94767898773c31c81a8", func := "tappet/tappetlaw04.AluShifts", spec := "aluShifts", apart := false, narrowed := true }
def AluShiftsUptoSaid : Prop := aluShiftsUptoRow.holds Try.pinned (OpenSpec.upto aluShiftsSpec)

/-- 'tappetlaw04.AluOrders', WHERE WHAT IT READS IS OF BULK AT MOST 1048576: true; the input reads as it did. -/
def aluOrdersUptoRow : OpenClaim := { program := "ytnncifcfgjphlaa", sum := "e13fef67eeafe4009b01d7d1caea18da06b3862ae7bdf94767898773c31c81a8", func := "tappet/tappetlaw04.AluOrders", spec := "aluOrders", apart := false, narrowed := true }
def AluOrdersUptoSaid : Prop := aluOrdersUptoRow.holds Try.pinned (OpenSpec.upto aluOrdersSpec)

/-- 'tappetlaw04.AluBits', WHERE WHAT IT READS IS OF BULK AT MOST 1048576: true; the input reads as it did. -/
def aluBitsUptoRow : OpenClaim := { program := "ytnncifcfgjphlaa", sum := "e13fef67eeafe4009b01d7d1caea18da06b3862ae7bdf94767898773c31c81a8", func := "tappet/tappetlaw04.AluBits", spec := "aluBits", apart := false, narrowed := true }
def AluBitsUptoSaid : Prop := aluBitsUptoRow.holds Try.pinned (OpenSpec.upto aluBitsSpec)

/-- 'tappetlaw04.AluWords', WHERE WHAT IT READS IS OF BULK AT MOST 1048576: true; the input reads as it did. -/
def aluWordsUptoRow : OpenClaim := { program := "ytnncifcfgjphlaa", sum := "e13fef67eeafe4009b01d7d1caea18da06b3862ae7bdf94767898773c31c81a8", func := "tappet/tappetlaw04.AluWords", spec := "aluWords", apart := false, narrowed := true }
def AluWordsUptoSaid : Prop := aluWordsUptoRow.holds Try.pinned (OpenSpec.upto aluWordsSpec)

/-- 'tappetlaw04.AluBranches', WHERE WHAT IT READS IS OF BULK AT MOST 1048576: true; the input reads as it did. -/
def aluBranchesUptoRow : OpenClaim := { program := "ytnncifcfgjphlaa", sum := "e13fef67eeafe4009b01d7d1caea18da06b3862ae7bdf94767898773c31c81a8", func := "tappet/tappetlaw04.AluBranches", spec := "aluBranches", apart := false, narrowed := true }
def AluBranchesUptoSaid : Prop := aluBranchesUptoRow.holds Try.pinned (OpenSpec.upto aluBranchesSpec)

/-- 'tappetlaw04.AluJumps', WHERE WHAT IT READS IS OF BULK AT MOST 1048576: true; the input reads as it did. -/
def aluJumpsUptoRow : OpenClaim := { program := "ytnncifcfgjphlaa", sum := "e13fef67eeafe4009b01d7d1caea18da06b3862ae7bdf94767898773c31c81a8", func := "tappet/tappetlaw04.AluJumps", spec := "aluJumps", apart := false, narrowed := true }
def AluJumpsUptoSaid : Prop := aluJumpsUptoRow.holds Try.pinned (OpenSpec.upto aluJumpsSpec)

end Rows
end Go.Proofs.Ytnncifcfgjphlaa

/-
  No cell of these rows narrows 'for every input' (looked for: loops, veiled, ifaces, maps, wideKeys, modest, calm, conditions, laid).
  DERIVED. THE GIVEN ROWS OF THIS SEAT. 8 by the template 'for every input the law returns true; each argument reads behind the call as it read before'; 0 by the template 'total and deterministic' (their statements: YtngegkonijljnaaTotals.lean).
  GIVEN WITH THE SEED: the statements are not yours to turn. If you find one false, say at which input.
  Laid BY PROGRAM, IN A SANDBOX (cutbox-rows.mjs): the forced cells as the released guide's own fill.sh prints them over the translation a4c285b9f2e64c01… (all of the seat's roots in one cut). By AI agents, Wed Nov 11 2026. No macro, syntax, notation, axiom, sorry.
-/
import Derived.Test.YtngegkonijljnaaChecked
import GoSem.Claim
import GoSem.ClaimJoined
import GoSem.ClaimMapViews
import Derived.JoinedTies
import Derived.KernelRfl
namespace Go.Proofs.Ytngegkonijljnaa
/- THE CELL 'sum', in the pinned program and in every row, IS THE sha256 OF THE DUMP (.gsa) THAT YtngegkonijljnaaProg.lean LOADS. Nothing in Lean hashes anything: it is a label: what it is worth is what the hold of that sum in a sandbox is worth. -/
noncomputable def Try.pinned : Pinned := { name := "ytngegkonijljnaa", sum := "a4c285b9f2e64c018c1ca1435cbd48b40943280d9b38bc3cd33611a1dee1cbfd", checked := Try.checked }
namespace Rows
def none {H : Type} : Left H := { results := [], args := [] }

/-- 'tappetlaw05.MulResults': WHATEVER THE INPUT: true; the input reads as it did. -/
def mulResultsSpec : ChangeSpec := { name := "mulResults", fn := fun _ => fun
  | [d1, d2, d3, d4] => { results := [.lit (.bool true)], args := [d1, d2, d3, d4] }
  | _ => none }
def mulResultsRow : OpenClaim := { program := "ytngegkonijljnaa", sum := "a4c285b9f2e64c018c1ca1435cbd48b40943280d9b38bc3cd33611a1dee1cbfd", func := "tappet/tappetlaw05.MulResults", spec := "mulResults", apart := false }
def MulResultsSaid : Prop := mulResultsRow.holds Try.pinned (OpenSpec.ofChange mulResultsSpec)

/-- ITS FALSE NEIGHBOUR: 'it returns false'. Refute it at one input. -/
def mulResultsWrong : ChangeSpec := { name := "mulResults", fn := fun _ => fun
  | [d1, d2, d3, d4] => { results := [.lit (.bool false)], args := [d1, d2, d3, d4] }
  | _ => none }
def MulResultsWrongFalsely : Prop := mulResultsRow.holds Try.pinned (OpenSpec.ofChange mulResultsWrong)

/-- 'tappetlaw05.MulWhole': WHATEVER THE INPUT: true; the input reads as it did. -/
def mulWholeSpec : ChangeSpec := { name := "mulWhole", fn := fun _ => fun
  | [d1, d2] => { results := [.lit (.bool true)], args := [d1, d2] }
  | _ => none }
def mulWholeRow : OpenClaim := { program := "ytngegkonijljnaa", sum := "a4c285b9f2e64c018c1ca1435cbd48b40943280d9b38bc3cd33611a1dee1cbfd", func := "tappet/tappetlaw05.MulWhole", spec := "mulWhole", apart := false }
def MulWholeSaid : Prop := mulWholeRow.holds Try.pinned (OpenSpec.ofChange mulWholeSpec)

/-- ITS FALSE NEIGHBOUR: 'it returns false'. Refute it at one input. -/
def mulWholeWrong : ChangeSpec := { name := "mulWhole", fn := fun _ => fun
  | [d1, d2] => { results := [.lit (.bool false)], args := [d1, d2] }
  | _ => none }
def MulWholeWrongFalsely : Prop := mulWholeRow.holds Try.pinned (OpenSpec.ofChange mulWholeWrong)

/-- 'tappetlaw05.MulWide': WHATEVER THE INPUT: true; the input reads as it did. -/
def mulWideSpec : ChangeSpec := { name := "mulWide", fn := fun _ => fun
  | [d1, d2, d3] => { results := [.lit (.bool true)], args := [d1, d2, d3] }
  | _ => none }
def mulWideRow : OpenClaim := { program := "ytngegkonijljnaa", sum := "a4c285b9f2e64c018c1ca1435cbd48b40943280d9b38bc3cd33611a1dee1cbfd", func := "tappet/tappetlaw05.MulWide", spec := "mulWide", apart := false }
def MulWideSaid : Prop := mulWideRow.holds Try.pinned (OpenSpec.ofChange mulWideSpec)

/-- ITS FALSE NEIGHBOUR: 'it returns false'. Refute it at one input. -/
def mulWideWrong : ChangeSpec := { name := "mulWide", fn := fun _ => fun
  | [d1, d2, d3] => { results := [.lit (.bool false)], args := [d1, d2, d3] }
  | _ => none }
def MulWideWrongFalsely : Prop := mulWideRow.holds Try.pinned (OpenSpec.ofChange mulWideWrong)

/-- 'tappetlaw05.MulSigns': WHATEVER THE INPUT: true; the input reads as it did. -/
def mulSignsSpec : ChangeSpec := { name := "mulSigns", fn := fun _ => fun
  | [d1, d2] => { results := [.lit (.bool true)], args := [d1, d2] }
  | _ => none }
def mulSignsRow : OpenClaim := { program := "ytngegkonijljnaa", sum := "a4c285b9f2e64c018c1ca1435cbd48b40943280d9b38bc3cd33611a1dee1cbfd", func := "tappet/tappetlaw05.MulSigns", spec := "mulSigns", apart := false }
def MulSignsSaid : Prop := mulSignsRow.holds Try.pinned (OpenSpec.ofChange mulSignsSpec)

/-- ITS FALSE NEIGHBOUR: 'it returns false'. Refute it at one input. -/
def mulSignsWrong : ChangeSpec := { name := "mulSigns", fn := fun _ => fun
  | [d1, d2] => { results := [.lit (.bool false)], args := [d1, d2] }
  | _ => none }
def MulSignsWrongFalsely : Prop := mulSignsRow.holds Try.pinned (OpenSpec.ofChange mulSignsWrong)

/-- 'tappetlaw05.MulSmall': WHATEVER THE INPUT: true; the input reads as it did. -/
def mulSmallSpec : ChangeSpec := { name := "mulSmall", fn := fun _ => fun
  | [d1, d2] => { results := [.lit (.bool true)], args := [d1, d2] }
  | _ => none }
def mulSmallRow : OpenClaim := { program := "ytngegkonijljnaa", sum := "a4c285b9f2e64c018c1ca1435cbd48b40943280d9b38bc3cd33611a1dee1cbfd", func := "tappet/tappetlaw05.MulSmall", spec := "mulSmall", apart := false }
def MulSmallSaid : Prop := mulSmallRow.holds Try.pinned (OpenSpec.ofChange mulSmallSpec)

/-- ITS FALSE NEIGHBOUR: 'it returns false'. Refute it at one input. -/
def mulSmallWrong : ChangeSpec := { name := "mulSmall", fn := fun _ => fun
  | [d1, d2] => { results := [.lit (.bool false)], args := [d1, d2] }
  | _ => none }
def MulSmallWrongFalsely : Prop := mulSmallRow.holds Try.pinned (OpenSpec.ofChange mulSmallWrong)

/-- 'tappetlaw05.MulSteps': WHATEVER THE INPUT: true; the input reads as it did. -/
def mulStepsSpec : ChangeSpec := { name := "mulSteps", fn := fun _ => fun
  | [d] => { results := [.lit (.bool true)], args := [d] }
  | _ => none }
def mulStepsRow : OpenClaim := { program := "ytngegkonijljnaa", sum := "a4c285b9f2e64c018c1ca1435cbd48b40943280d9b38bc3cd33611a1dee1cbfd", func := "tappet/tappetlaw05.MulSteps", spec := "mulSteps", unfollowed := true, recurses := true, apart := false }
def MulStepsSaid : Prop := mulStepsRow.holds Try.pinned (OpenSpec.ofChange mulStepsSpec)

/-- ITS FALSE NEIGHBOUR: 'it returns false'. Refute it at one input. -/
def mulStepsWrong : ChangeSpec := { name := "mulSteps", fn := fun _ => fun
  | [d] => { results := [.lit (.bool false)], args := [d] }
  | _ => none }
def MulStepsWrongFalsely : Prop := mulStepsRow.holds Try.pinned (OpenSpec.ofChange mulStepsWrong)

/-- 'tappetlaw05.MulNil': WHATEVER THE INPUT: true; the input reads as it did. -/
def mulNilSpec : ChangeSpec := { name := "mulNil", fn := fun _ => fun
  | [d1, d2, d3] => { results := [.lit (.bool true)], args := [d1, d2, d3] }
  | _ => none }
def mulNilRow : OpenClaim := { program := "ytngegkonijljnaa", sum := "a4c285b9f2e64c018c1ca1435cbd48b40943280d9b38bc3cd33611a1dee1cbfd", func := "tappet/tappetlaw05.MulNil", spec := "mulNil", unfollowed := true, recurses := true, apart := false }
def MulNilSaid : Prop := mulNilRow.holds Try.pinned (OpenSpec.ofChange mulNilSpec)

/-- ITS FALSE NEIGHBOUR: 'it returns false'. Refute it at one input. -/
def mulNilWrong : ChangeSpec := { name := "mulNil", fn := fun _ => fun
  | [d1, d2, d3] => { results := [.lit (.bool false)], args := [d1, d2, d3] }
  | _ => none }
def MulNilWrongFalsely : Prop := mulNilRow.holds Try.pinned (OpenSpec.ofChange mulNilWrong)

/-- 'tappetlaw05.MulWays': WHATEVER THE INPUT: true; the input reads as it did. -/
def mulWaysSpec : ChangeSpec := { name := "mulWays", fn := fun _ => fun
  | [d1, d2, d3, d4, d5] => { results := [.lit (.bool true)], args := [d1, d2, d3, d4, d5] }
  | _ => none }
def mulWaysRow : OpenClaim := { program := "ytngegkonijljnaa", sum := "a4c285b9f2e64c018c1ca1435cbd48b40943280d9b38bc3cd33611a1dee1cbfd", func := "tappet/tappetlaw05.MulWays", spec := "mulWays", unfollowed := true, recurses := true, apart := false }
def MulWaysSaid : Prop := mulWaysRow.holds Try.pinned (OpenSpec.ofChange mulWaysSpec)

/-- ITS FALSE NEIGHBOUR: 'it returns false'. Refute it at one input. -/
def mulWaysWrong : ChangeSpec := { name := "mulWays", fn := fun _ => fun
  | [d1, d2, d3, d4, d5] => { results := [.lit (.bool false)], args := [d1, d2, d3, d4, d5] }
  | _ => none }
def MulWaysWrongFalsely : Prop := mulWaysRow.holds Try.pinned (OpenSpec.ofChange mulWaysWrong)

/- THE SECOND FORM. 'bulk': how many values and letters a reading holds, each counted each time it is reached (what is shared counts as often as it is met; a slice's spare places count too). A statement '..UptoSaid' is the law's where the arguments, and the package variables that the reading takes, are together of bulk at most 1048576: NARROWER than '..Said'. Prove '..Said' where nothing that the law and all that it calls make is longer than what came in: it says more and counts as full. Else prove '..UptoSaid'. A law counts once. -/
mutual
def uptoBulk {H : Type} : DataW H → Nat
  | .lit (.string bytes) => bytes.length + 1
  | .lit _ => 1
  | .nil => 1
  | .ptr d => uptoBulk d + 1
  | .slice elems spare => uptoBulkAll elems + uptoBulkAll spare + 1
  | .agg parts => uptoBulkAll parts + 1
  | .iface _ d => uptoBulk d + 1
  | .map entries => uptoBulkEntries entries + 1
  | .held _ => 1
def uptoBulkAll {H : Type} : List (DataW H) → Nat
  | [] => 0
  | d :: r => uptoBulk d + uptoBulkAll r
def uptoBulkEntries {H : Type} : List (Lit × DataW H) → Nat
  | [] => 0
  | x :: r => uptoBulkEntry x + uptoBulkEntries r
def uptoBulkEntry {H : Type} : Lit × DataW H → Nat
  | (.string bytes, d) => bytes.length + uptoBulk d + 1
  | (_, d) => uptoBulk d + 1
 end
def uptoSmall : (H : Type) → List (DataW H) → Bool := fun _ ds => decide (uptoBulkAll ds ≤ 1048576)
def OpenSpec.upto (s : _root_.Go.ChangeSpec) : _root_.Go.OpenSpec := { _root_.Go.OpenSpec.ofChange s with cond := some uptoSmall }

/-- 'tappetlaw05.MulResults', WHERE WHAT IT READS IS OF BULK AT MOST 1048576: true; the input reads as it did. -/
def mulResultsUptoRow : OpenClaim := { program := "ytngegkonijljnaa", sum := "a4c285b9f2e64c018c1ca1435cbd48b40943280d9b38bc3cd33611a1dee1cbfd", func := "tappet/tappetlaw05.MulResults", spec := "mulResults", apart := false, narrowed := true }
def MulResultsUptoSaid : Prop := mulResultsUptoRow.holds Try.pinned (OpenSpec.upto mulResultsSpec)

/-- 'tappetlaw05.MulWhole', WHERE WHAT IT READS IS OF BULK AT MOST 1048576: true; the input reads as it did. -/
def mulWholeUptoRow : OpenClaim := { program := "ytngegkonijljnaa", sum := "a4c285b9f2e64c018c1ca1435cbd48b40943280d9b38bc3cd33611a1dee1cbfd", func := "tappet/tappetlaw05.MulWhole", spec := "mulWhole", apart := false, narrowed := true }
def MulWholeUptoSaid : Prop := mulWholeUptoRow.holds Try.pinned (OpenSpec.upto mulWholeSpec)

/-- 'tappetlaw05.MulWide', WHERE WHAT IT READS IS OF BULK AT MOST 1048576: true; the input reads as it did. -/
def mulWideUptoRow : OpenClaim := { program := "ytngegkonijljnaa", sum := "a4c285b9f2e64c018c1ca1435cbd48b40943280d9b38bc3cd33611a1dee1cbfd", func := "tappet/tappetlaw05.MulWide", spec := "mulWide", apart := false, narrowed := true }
def MulWideUptoSaid : Prop := mulWideUptoRow.holds Try.pinned (OpenSpec.upto mulWideSpec)

/-- 'tappetlaw05.MulSigns', WHERE WHAT IT READS IS OF BULK AT MOST 1048576: true; the input reads as it did. -/
def mulSignsUptoRow : OpenClaim := { program := "ytngegkonijljnaa", sum := "a4c285b9f2e64c018c1ca1435cbd48b40943280d9b38bc3cd33611a1dee1cbfd", func := "tappet/tappetlaw05.MulSigns", spec := "mulSigns", apart := false, narrowed := true }
def MulSignsUptoSaid : Prop := mulSignsUptoRow.holds Try.pinned (OpenSpec.upto mulSignsSpec)

/-- 'tappetlaw05.MulSmall', WHERE WHAT IT READS IS OF BULK AT MOST 1048576: true; the input reads as it did. -/
def mulSmallUptoRow : OpenClaim := { program := "ytngegkonijljnaa", sum := "a4c285b9f2e64c018c1ca1435cbd48b40943280d9b38bc3cd33611a1dee1cbfd", func := "tappet/tappetlaw05.MulSmall", spec := "mulSmall", apart := false, narrowed := true }
def MulSmallUptoSaid : Prop := mulSmallUptoRow.holds Try.pinned (OpenSpec.upto mulSmallSpec)

/-- 'tappetlaw05.MulSteps', WHERE WHAT IT READS IS OF BULK AT MOST 1048576: true; the input reads as it did. -/
def mulStepsUptoRow : OpenClaim := { program := "ytngegkonijljnaa", sum := "a4c285b9f2e64c018c1ca1435cbd48b40943280d9b38bc3cd33611a1dee1cbfd", func := "tappet/tappetlaw05.MulSteps", spec := "mulSteps", unfollowed := true, recurses := true, apart := false, narrowed := true }
def MulStepsUptoSaid : Prop := mulStepsUptoRow.holds Try.pinned (OpenSpec.upto mulStepsSpec)

/-- 'tappetlaw05.MulNil', WHERE WHAT IT READS IS OF BULK AT MOST 1048576: true; the input reads as it did. -/
def mulNilUptoRow : OpenClaim := { program := "ytngegkonijljnaa", sum := "a4c285b9f2e64c018c1ca1435cbd48b40943280d9b38bc3cd33611a1dee1cbfd", func := "tappet/tappetlaw05.MulNil", spec := "mulNil", unfollowed := true, recurses := true, apart := false, narrowed := true }
def MulNilUptoSaid : Prop := mulNilUptoRow.holds Try.pinned (OpenSpec.upto mulNilSpec)

/-- 'tappetlaw05.MulWays', WHERE WHAT IT READS IS OF BULK AT MOST 1048576: true; the input reads as it did. -/
def mulWaysUptoRow : OpenClaim := { program := "ytngegkonijljnaa", sum := "a4c285b9f2e64c018c1ca1435cbd48b40943280d9b38bc3cd33611a1dee1cbfd", func := "tappet/tappetlaw05.MulWays", spec := "mulWays", unfollowed := true, recurses := true, apart := false, narrowed := true }
def MulWaysUptoSaid : Prop := mulWaysUptoRow.holds Try.pinned (OpenSpec.upto mulWaysSpec)

end Rows
end Go.Proofs.Ytngegkonijljnaa

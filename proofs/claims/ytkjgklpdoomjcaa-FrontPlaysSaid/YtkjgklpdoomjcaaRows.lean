/-
  No cell of these rows narrows 'for every input' (looked for: loops, veiled, ifaces, maps, wideKeys, modest, calm, conditions, laid).
  DERIVED. THE GIVEN ROWS OF THIS SEAT. 14 by the template 'for every input the law returns true; each argument reads behind the call as it read before'; 0 by the template 'total and deterministic' (their statements: YtkjgklpdoomjcaaTotals.lean).
  GIVEN WITH THE SEED: the statements are not yours to turn. If you find one false, say at which input.
  Laid BY PROGRAM, IN A SANDBOX (cutbox-rows.mjs): the forced cells as the released guide's own fill.sh prints them over the translation 02d44152c940aa0c… (all of the seat's roots in one cut). By AI agents, Wed Nov 11 2026. No macro, syntax, notation, axiom, sorry.
-/
import Derived.Test.YtkjgklpdoomjcaaChecked
import GoSem.Claim
import GoSem.ClaimJoined
import GoSem.ClaimMapViews
import Derived.JoinedTies
import Derived.KernelRfl
namespace Go.Proofs.Ytkjgklpdoomjcaa
/- THE CELL 'sum', in the pinned program and in every row, IS THE sha256 OF THE DUMP (.gsa) THAT YtkjgklpdoomjcaaProg.lean LOADS. Nothing in Lean hashes anything: it is a label: what it is worth is what the hold of that sum in a sandbox is worth. -/
noncomputable def Try.pinned : Pinned := { name := "ytkjgklpdoomjcaa", sum := "02d44152c940aa0c4919d3de6297a2af517423f5d64c82645df4c86fc9a0197e", checked := Try.checked }
namespace Rows
def none {H : Type} : Left H := { results := [], args := [] }

/-- 'tappetlaw22.QueueRing': WHATEVER THE INPUT: true; the input reads as it did. -/
def queueRingSpec : ChangeSpec := { name := "queueRing", fn := fun _ => fun
  | [d1, d2] => { results := [.lit (.bool true)], args := [d1, d2] }
  | _ => none }
def queueRingRow : OpenClaim := { program := "ytkjgklpdoomjcaa", sum := "02d44152c940aa0c4919d3de6297a2af517423f5d64c82645df4c86fc9a0197e", func := "tappet/tappetlaw22.QueueRing", spec := "queueRing", apart := false }
def QueueRingSaid : Prop := queueRingRow.holds Try.pinned (OpenSpec.ofChange queueRingSpec)

/-- ITS FALSE NEIGHBOUR: 'it returns false'. Refute it at one input. -/
def queueRingWrong : ChangeSpec := { name := "queueRing", fn := fun _ => fun
  | [d1, d2] => { results := [.lit (.bool false)], args := [d1, d2] }
  | _ => none }
def QueueRingWrongFalsely : Prop := queueRingRow.holds Try.pinned (OpenSpec.ofChange queueRingWrong)

/-- 'tappetlaw22.QueueEpochs': WHATEVER THE INPUT: true; the input reads as it did. -/
def queueEpochsSpec : ChangeSpec := { name := "queueEpochs", fn := fun _ => fun
  | [d1, d2] => { results := [.lit (.bool true)], args := [d1, d2] }
  | _ => none }
def queueEpochsRow : OpenClaim := { program := "ytkjgklpdoomjcaa", sum := "02d44152c940aa0c4919d3de6297a2af517423f5d64c82645df4c86fc9a0197e", func := "tappet/tappetlaw22.QueueEpochs", spec := "queueEpochs", apart := false }
def QueueEpochsSaid : Prop := queueEpochsRow.holds Try.pinned (OpenSpec.ofChange queueEpochsSpec)

/-- ITS FALSE NEIGHBOUR: 'it returns false'. Refute it at one input. -/
def queueEpochsWrong : ChangeSpec := { name := "queueEpochs", fn := fun _ => fun
  | [d1, d2] => { results := [.lit (.bool false)], args := [d1, d2] }
  | _ => none }
def QueueEpochsWrongFalsely : Prop := queueEpochsRow.holds Try.pinned (OpenSpec.ofChange queueEpochsWrong)

/-- 'tappetlaw21.PredictLearns': WHATEVER THE INPUT: true; the input reads as it did. -/
def predictLearnsSpec : ChangeSpec := { name := "predictLearns", fn := fun _ => fun
  | [d1, d2, d3, d4, d5, d6] => { results := [.lit (.bool true)], args := [d1, d2, d3, d4, d5, d6] }
  | _ => none }
def predictLearnsRow : OpenClaim := { program := "ytkjgklpdoomjcaa", sum := "02d44152c940aa0c4919d3de6297a2af517423f5d64c82645df4c86fc9a0197e", func := "tappet/tappetlaw21.PredictLearns", spec := "predictLearns", apart := false }
def PredictLearnsSaid : Prop := predictLearnsRow.holds Try.pinned (OpenSpec.ofChange predictLearnsSpec)

/-- ITS FALSE NEIGHBOUR: 'it returns false'. Refute it at one input. -/
def predictLearnsWrong : ChangeSpec := { name := "predictLearns", fn := fun _ => fun
  | [d1, d2, d3, d4, d5, d6] => { results := [.lit (.bool false)], args := [d1, d2, d3, d4, d5, d6] }
  | _ => none }
def PredictLearnsWrongFalsely : Prop := predictLearnsRow.holds Try.pinned (OpenSpec.ofChange predictLearnsWrong)

/-- 'tappetlaw22.QueuePlays': WHATEVER THE INPUT: true; the input reads as it did. -/
def queuePlaysSpec : ChangeSpec := { name := "queuePlays", fn := fun _ => fun
  | [d1, d2, d3, d4] => { results := [.lit (.bool true)], args := [d1, d2, d3, d4] }
  | _ => none }
def queuePlaysRow : OpenClaim := { program := "ytkjgklpdoomjcaa", sum := "02d44152c940aa0c4919d3de6297a2af517423f5d64c82645df4c86fc9a0197e", func := "tappet/tappetlaw22.QueuePlays", spec := "queuePlays", apart := false }
def QueuePlaysSaid : Prop := queuePlaysRow.holds Try.pinned (OpenSpec.ofChange queuePlaysSpec)

/-- ITS FALSE NEIGHBOUR: 'it returns false'. Refute it at one input. -/
def queuePlaysWrong : ChangeSpec := { name := "queuePlays", fn := fun _ => fun
  | [d1, d2, d3, d4] => { results := [.lit (.bool false)], args := [d1, d2, d3, d4] }
  | _ => none }
def QueuePlaysWrongFalsely : Prop := queuePlaysRow.holds Try.pinned (OpenSpec.ofChange queuePlaysWrong)

/-- 'tappetlaw22.QueueNil': WHATEVER THE INPUT: true; the input reads as it did. -/
def queueNilSpec : ChangeSpec := { name := "queueNil", fn := fun _ => fun
  | [d1, d2, d3] => { results := [.lit (.bool true)], args := [d1, d2, d3] }
  | _ => none }
def queueNilRow : OpenClaim := { program := "ytkjgklpdoomjcaa", sum := "02d44152c940aa0c4919d3de6297a2af517423f5d64c82645df4c86fc9a0197e", func := "tappet/tappetlaw22.QueueNil", spec := "queueNil", apart := false }
def QueueNilSaid : Prop := queueNilRow.holds Try.pinned (OpenSpec.ofChange queueNilSpec)

/-- ITS FALSE NEIGHBOUR: 'it returns false'. Refute it at one input. -/
def queueNilWrong : ChangeSpec := { name := "queueNil", fn := fun _ => fun
  | [d1, d2, d3] => { results := [.lit (.bool false)], args := [d1, d2, d3] }
  | _ => none }
def QueueNilWrongFalsely : Prop := queueNilRow.holds Try.pinned (OpenSpec.ofChange queueNilWrong)

/-- 'tappetlaw21.PredictCalls': WHATEVER THE INPUT: true; the input reads as it did. -/
def predictCallsSpec : ChangeSpec := { name := "predictCalls", fn := fun _ => fun
  | [d1, d2, d3] => { results := [.lit (.bool true)], args := [d1, d2, d3] }
  | _ => none }
def predictCallsRow : OpenClaim := { program := "ytkjgklpdoomjcaa", sum := "02d44152c940aa0c4919d3de6297a2af517423f5d64c82645df4c86fc9a0197e", func := "tappet/tappetlaw21.PredictCalls", spec := "predictCalls", apart := false }
def PredictCallsSaid : Prop := predictCallsRow.holds Try.pinned (OpenSpec.ofChange predictCallsSpec)

/-- ITS FALSE NEIGHBOUR: 'it returns false'. Refute it at one input. -/
def predictCallsWrong : ChangeSpec := { name := "predictCalls", fn := fun _ => fun
  | [d1, d2, d3] => { results := [.lit (.bool false)], args := [d1, d2, d3] }
  | _ => none }
def PredictCallsWrongFalsely : Prop := predictCallsRow.holds Try.pinned (OpenSpec.ofChange predictCallsWrong)

/-- 'tappetlaw21.PredictApart': WHATEVER THE INPUT: true; the input reads as it did. -/
def predictApartSpec : ChangeSpec := { name := "predictApart", fn := fun _ => fun
  | [d1, d2, d3, d4] => { results := [.lit (.bool true)], args := [d1, d2, d3, d4] }
  | _ => none }
def predictApartRow : OpenClaim := { program := "ytkjgklpdoomjcaa", sum := "02d44152c940aa0c4919d3de6297a2af517423f5d64c82645df4c86fc9a0197e", func := "tappet/tappetlaw21.PredictApart", spec := "predictApart", apart := false }
def PredictApartSaid : Prop := predictApartRow.holds Try.pinned (OpenSpec.ofChange predictApartSpec)

/-- ITS FALSE NEIGHBOUR: 'it returns false'. Refute it at one input. -/
def predictApartWrong : ChangeSpec := { name := "predictApart", fn := fun _ => fun
  | [d1, d2, d3, d4] => { results := [.lit (.bool false)], args := [d1, d2, d3, d4] }
  | _ => none }
def PredictApartWrongFalsely : Prop := predictApartRow.holds Try.pinned (OpenSpec.ofChange predictApartWrong)

/-- 'tappetlaw21.PredictHistory': WHATEVER THE INPUT: true; the input reads as it did. -/
def predictHistorySpec : ChangeSpec := { name := "predictHistory", fn := fun _ => fun
  | [d1, d2] => { results := [.lit (.bool true)], args := [d1, d2] }
  | _ => none }
def predictHistoryRow : OpenClaim := { program := "ytkjgklpdoomjcaa", sum := "02d44152c940aa0c4919d3de6297a2af517423f5d64c82645df4c86fc9a0197e", func := "tappet/tappetlaw21.PredictHistory", spec := "predictHistory", apart := false }
def PredictHistorySaid : Prop := predictHistoryRow.holds Try.pinned (OpenSpec.ofChange predictHistorySpec)

/-- ITS FALSE NEIGHBOUR: 'it returns false'. Refute it at one input. -/
def predictHistoryWrong : ChangeSpec := { name := "predictHistory", fn := fun _ => fun
  | [d1, d2] => { results := [.lit (.bool false)], args := [d1, d2] }
  | _ => none }
def PredictHistoryWrongFalsely : Prop := predictHistoryRow.holds Try.pinned (OpenSpec.ofChange predictHistoryWrong)

/-- 'tappetlaw21.PredictPlays': WHATEVER THE INPUT: true; the input reads as it did. -/
def predictPlaysSpec : ChangeSpec := { name := "predictPlays", fn := fun _ => fun
  | [d1, d2] => { results := [.lit (.bool true)], args := [d1, d2] }
  | _ => none }
def predictPlaysRow : OpenClaim := { program := "ytkjgklpdoomjcaa", sum := "02d44152c940aa0c4919d3de6297a2af517423f5d64c82645df4c86fc9a0197e", func := "tappet/tappetlaw21.PredictPlays", spec := "predictPlays", apart := false }
def PredictPlaysSaid : Prop := predictPlaysRow.holds Try.pinned (OpenSpec.ofChange predictPlaysSpec)

/-- ITS FALSE NEIGHBOUR: 'it returns false'. Refute it at one input. -/
def predictPlaysWrong : ChangeSpec := { name := "predictPlays", fn := fun _ => fun
  | [d1, d2] => { results := [.lit (.bool false)], args := [d1, d2] }
  | _ => none }
def PredictPlaysWrongFalsely : Prop := predictPlaysRow.holds Try.pinned (OpenSpec.ofChange predictPlaysWrong)

/-- 'tappetlaw21.PredictNil': WHATEVER THE INPUT: true; the input reads as it did. -/
def predictNilSpec : ChangeSpec := { name := "predictNil", fn := fun _ => fun
  | [d1, d2] => { results := [.lit (.bool true)], args := [d1, d2] }
  | _ => none }
def predictNilRow : OpenClaim := { program := "ytkjgklpdoomjcaa", sum := "02d44152c940aa0c4919d3de6297a2af517423f5d64c82645df4c86fc9a0197e", func := "tappet/tappetlaw21.PredictNil", spec := "predictNil", apart := false }
def PredictNilSaid : Prop := predictNilRow.holds Try.pinned (OpenSpec.ofChange predictNilSpec)

/-- ITS FALSE NEIGHBOUR: 'it returns false'. Refute it at one input. -/
def predictNilWrong : ChangeSpec := { name := "predictNil", fn := fun _ => fun
  | [d1, d2] => { results := [.lit (.bool false)], args := [d1, d2] }
  | _ => none }
def PredictNilWrongFalsely : Prop := predictNilRow.holds Try.pinned (OpenSpec.ofChange predictNilWrong)

/-- 'tappetlaw27.FrontFaults': WHATEVER THE INPUT: true; the input reads as it did. -/
def frontFaultsSpec : ChangeSpec := { name := "frontFaults", fn := fun _ => fun
  | [d1, d2, d3, d4, d5, d6] => { results := [.lit (.bool true)], args := [d1, d2, d3, d4, d5, d6] }
  | _ => none }
def frontFaultsRow : OpenClaim := { program := "ytkjgklpdoomjcaa", sum := "02d44152c940aa0c4919d3de6297a2af517423f5d64c82645df4c86fc9a0197e", func := "tappet/tappetlaw27.FrontFaults", spec := "frontFaults", unfollowed := true, recurses := true, apart := false }
def FrontFaultsSaid : Prop := frontFaultsRow.holds Try.pinned (OpenSpec.ofChange frontFaultsSpec)

/-- ITS FALSE NEIGHBOUR: 'it returns false'. Refute it at one input. -/
def frontFaultsWrong : ChangeSpec := { name := "frontFaults", fn := fun _ => fun
  | [d1, d2, d3, d4, d5, d6] => { results := [.lit (.bool false)], args := [d1, d2, d3, d4, d5, d6] }
  | _ => none }
def FrontFaultsWrongFalsely : Prop := frontFaultsRow.holds Try.pinned (OpenSpec.ofChange frontFaultsWrong)

/-- 'tappetlaw27.FrontPaths': WHATEVER THE INPUT: true; the input reads as it did. -/
def frontPathsSpec : ChangeSpec := { name := "frontPaths", fn := fun _ => fun
  | [d1, d2, d3, d4, d5] => { results := [.lit (.bool true)], args := [d1, d2, d3, d4, d5] }
  | _ => none }
def frontPathsRow : OpenClaim := { program := "ytkjgklpdoomjcaa", sum := "02d44152c940aa0c4919d3de6297a2af517423f5d64c82645df4c86fc9a0197e", func := "tappet/tappetlaw27.FrontPaths", spec := "frontPaths", unfollowed := true, recurses := true, apart := false }
def FrontPathsSaid : Prop := frontPathsRow.holds Try.pinned (OpenSpec.ofChange frontPathsSpec)

/-- ITS FALSE NEIGHBOUR: 'it returns false'. Refute it at one input. -/
def frontPathsWrong : ChangeSpec := { name := "frontPaths", fn := fun _ => fun
  | [d1, d2, d3, d4, d5] => { results := [.lit (.bool false)], args := [d1, d2, d3, d4, d5] }
  | _ => none }
def FrontPathsWrongFalsely : Prop := frontPathsRow.holds Try.pinned (OpenSpec.ofChange frontPathsWrong)

/-- 'tappetlaw27.FrontPlays': WHATEVER THE INPUT: true; the input reads as it did. -/
def frontPlaysSpec : ChangeSpec := { name := "frontPlays", fn := fun _ => fun
  | [d1, d2, d3, d4, d5] => { results := [.lit (.bool true)], args := [d1, d2, d3, d4, d5] }
  | _ => none }
def frontPlaysRow : OpenClaim := { program := "ytkjgklpdoomjcaa", sum := "02d44152c940aa0c4919d3de6297a2af517423f5d64c82645df4c86fc9a0197e", func := "tappet/tappetlaw27.FrontPlays", spec := "frontPlays", unfollowed := true, recurses := true, apart := false }
def FrontPlaysSaid : Prop := frontPlaysRow.holds Try.pinned (OpenSpec.ofChange frontPlaysSpec)

/-- ITS FALSE NEIGHBOUR: 'it returns false'. Refute it at one input. -/
def frontPlaysWrong : ChangeSpec := { name := "frontPlays", fn := fun _ => fun
  | [d1, d2, d3, d4, d5] => { results := [.lit (.bool false)], args := [d1, d2, d3, d4, d5] }
  | _ => none }
def FrontPlaysWrongFalsely : Prop := frontPlaysRow.holds Try.pinned (OpenSpec.ofChange frontPlaysWrong)

/-- 'tappetlaw27.FrontNil': WHATEVER THE INPUT: true; the input reads as it did. -/
def frontNilSpec : ChangeSpec := { name := "frontNil", fn := fun _ => fun
  | [d1, d2, d3, d4, d5] => { results := [.lit (.bool true)], args := [d1, d2, d3, d4, d5] }
  | _ => none }
def frontNilRow : OpenClaim := { program := "ytkjgklpdoomjcaa", sum := "02d44152c940aa0c4919d3de6297a2af517423f5d64c82645df4c86fc9a0197e", func := "tappet/tappetlaw27.FrontNil", spec := "frontNil", unfollowed := true, recurses := true, apart := false }
def FrontNilSaid : Prop := frontNilRow.holds Try.pinned (OpenSpec.ofChange frontNilSpec)

/-- ITS FALSE NEIGHBOUR: 'it returns false'. Refute it at one input. -/
def frontNilWrong : ChangeSpec := { name := "frontNil", fn := fun _ => fun
  | [d1, d2, d3, d4, d5] => { results := [.lit (.bool false)], args := [d1, d2, d3, d4, d5] }
  | _ => none }
def FrontNilWrongFalsely : Prop := frontNilRow.holds Try.pinned (OpenSpec.ofChange frontNilWrong)

/- THE SECOND FORM. 'bulk': how many values and letters a reading holds, each counted each time it is reached (what is shared counts as often as it is met; a slice's spare places count too). A statement '..UptoSaid' is the law's where the arguments, and the package variables that the reading takes, are together of bulk at most 1048576: NARROWER than '..Said'. Prove '..Said' where nothing that the law and all that it calls make is longer than what came in: it says more and counts as full. Else prove '..UptoSaid'. A law counts once. -/
mutual
def uptoBulk {H : Type} : DataW H → Nat
  | .lit (.string bytes) => bytes.length + 1
  | .lit _ => 1
  | .nil => 1
  | .ptr d => uptoBulk d + 1
  | .slice elems spare => uptoBulkAll elems + uptoBulkAll spare + 1
  | .agg parts => uptoBulkAll parts + 1
  | .iface _ d => uptoBulk d + 1
  | .map entries => uptoBulkEntries entries + 1
  | .held _ => 1
def uptoBulkAll {H : Type} : List (DataW H) → Nat
  | [] => 0
  | d :: r => uptoBulk d + uptoBulkAll r
def uptoBulkEntries {H : Type} : List (Lit × DataW H) → Nat
  | [] => 0
  | x :: r => uptoBulkEntry x + uptoBulkEntries r
def uptoBulkEntry {H : Type} : Lit × DataW H → Nat
  | (.string bytes, d) => bytes.length + uptoBulk d + 1
  | (_, d) => uptoBulk d + 1
 end
def uptoSmall : (H : Type) → List (DataW H) → Bool := fun _ ds => decide (uptoBulkAll ds ≤ 1048576)
def OpenSpec.upto (s : _root_.Go.ChangeSpec) : _root_.Go.OpenSpec := { _root_.Go.OpenSpec.ofChange s with cond := some uptoSmall }

/-- 'tappetlaw22.QueueRing', WHERE WHAT IT READS IS OF BULK AT MOST 1048576: true; the input reads as it did. -/
def queueRingUptoRow : OpenClaim := { program := "ytkjgklpdoomjcaa", sum := "02d44152c940aa0c4919d3de6297a2af517423f5d64c82645df4c86fc9a0197e", func := "tappet/tappetlaw22.QueueRing", spec := "queueRing", apart := false, narrowed := true }
def QueueRingUptoSaid : Prop := queueRingUptoRow.holds Try.pinned (OpenSpec.upto queueRingSpec)

/-- 'tappetlaw22.QueueEpochs', WHERE WHAT IT READS IS OF BULK AT MOST 1048576: true; the input reads as it did. -/
def queueEpochsUptoRow : OpenClaim := { program := "ytkjgklpdoomjcaa", sum := "02d44152c940aa0c4919d3de6297a2af517423f5d64c82645df4c86fc9a0197e", func := "tappet/tappetlaw22.QueueEpochs", spec := "queueEpochs", apart := false, narrowed := true }
def QueueEpochsUptoSaid : Prop := queueEpochsUptoRow.holds Try.pinned (OpenSpec.upto queueEpochsSpec)

/-- 'tappetlaw21.PredictLearns', WHERE WHAT IT READS IS OF BULK AT MOST 1048576: true; the input reads as it did. -/
def predictLearnsUptoRow : OpenClaim := { program := "ytkjgklpdoomjcaa", sum := "02d44152c940aa0c4919d3de6297a2af517423f5d64c82645df4c86fc9a0197e", func := "tappet/tappetlaw21.PredictLearns", spec := "predictLearns", apart := false, narrowed := true }
def PredictLearnsUptoSaid : Prop := predictLearnsUptoRow.holds Try.pinned (OpenSpec.upto predictLearnsSpec)

/-- 'tappetlaw22.QueuePlays', WHERE WHAT IT READS IS OF BULK AT MOST 1048576: true; the input reads as it did. -/
def queuePlaysUptoRow : OpenClaim := { program := "ytkjgklpdoomjcaa", sum := "02d44152c940aa0c4919d3de6297a2af517423f5d64c82645df4c86fc9a0197e", func := "tappet/tappetlaw22.QueuePlays", spec := "queuePlays", apart := false, narrowed := true }
def QueuePlaysUptoSaid : Prop := queuePlaysUptoRow.holds Try.pinned (OpenSpec.upto queuePlaysSpec)

/-- 'tappetlaw22.QueueNil', WHERE WHAT IT READS IS OF BULK AT MOST 1048576: true; the input reads as it did. -/
def queueNilUptoRow : OpenClaim := { program := "ytkjgklpdoomjcaa", sum := "02d44152c940aa0c4919d3de6297a2af517423f5d64c82645df4c86fc9a0197e", func := "tappet/tappetlaw22.QueueNil", spec := "queueNil", apart := false, narrowed := true }
def QueueNilUptoSaid : Prop := queueNilUptoRow.holds Try.pinned (OpenSpec.upto queueNilSpec)

/-- 'tappetlaw21.PredictCalls', WHERE WHAT IT READS IS OF BULK AT MOST 1048576: true; the input reads as it did. -/
def predictCallsUptoRow : OpenClaim := { program := "ytkjgklpdoomjcaa", sum := "02d44152c940aa0c4919d3de6297a2af517423f5d64c82645df4c86fc9a0197e", func := "tappet/tappetlaw21.PredictCalls", spec := "predictCalls", apart := false, narrowed := true }
def PredictCallsUptoSaid : Prop := predictCallsUptoRow.holds Try.pinned (OpenSpec.upto predictCallsSpec)

/-- 'tappetlaw21.PredictApart', WHERE WHAT IT READS IS OF BULK AT MOST 1048576: true; the input reads as it did. -/
def predictApartUptoRow : OpenClaim := { program := "ytkjgklpdoomjcaa", sum := "02d44152c940aa0c4919d3de6297a2af517423f5d64c82645df4c86fc9a0197e", func := "tappet/tappetlaw21.PredictApart", spec := "predictApart", apart := false, narrowed := true }
def PredictApartUptoSaid : Prop := predictApartUptoRow.holds Try.pinned (OpenSpec.upto predictApartSpec)

/-- 'tappetlaw21.PredictHistory', WHERE WHAT IT READS IS OF BULK AT MOST 1048576: true; the input reads as it did. -/
def predictHistoryUptoRow : OpenClaim := { program := "ytkjgklpdoomjcaa", sum := "02d44152c940aa0c4919d3de6297a2af517423f5d64c82645df4c86fc9a0197e", func := "tappet/tappetlaw21.PredictHistory", spec := "predictHistory", apart := false, narrowed := true }
def PredictHistoryUptoSaid : Prop := predictHistoryUptoRow.holds Try.pinned (OpenSpec.upto predictHistorySpec)

/-- 'tappetlaw21.PredictPlays', WHERE WHAT IT READS IS OF BULK AT MOST 1048576: true; the input reads as it did. -/
def predictPlaysUptoRow : OpenClaim := { program := "ytkjgklpdoomjcaa", sum := "02d44152c940aa0c4919d3de6297a2af517423f5d64c82645df4c86fc9a0197e", func := "tappet/tappetlaw21.PredictPlays", spec := "predictPlays", apart := false, narrowed := true }
def PredictPlaysUptoSaid : Prop := predictPlaysUptoRow.holds Try.pinned (OpenSpec.upto predictPlaysSpec)

/-- 'tappetlaw21.PredictNil', WHERE WHAT IT READS IS OF BULK AT MOST 1048576: true; the input reads as it did. -/
def predictNilUptoRow : OpenClaim := { program := "ytkjgklpdoomjcaa", sum := "02d44152c940aa0c4919d3de6297a2af517423f5d64c82645df4c86fc9a0197e", func := "tappet/tappetlaw21.PredictNil", spec := "predictNil", apart := false, narrowed := true }
def PredictNilUptoSaid : Prop := predictNilUptoRow.holds Try.pinned (OpenSpec.upto predictNilSpec)

/-- 'tappetlaw27.FrontFaults', WHERE WHAT IT READS IS OF BULK AT MOST 1048576: true; the input reads as it did. -/
def frontFaultsUptoRow : OpenClaim := { program := "ytkjgklpdoomjcaa", sum := "02d44152c940aa0c4919d3de6297a2af517423f5d64c82645df4c86fc9a0197e", func := "tappet/tappetlaw27.FrontFaults", spec := "frontFaults", unfollowed := true, recurses := true, apart := false, narrowed := true }
def FrontFaultsUptoSaid : Prop := frontFaultsUptoRow.holds Try.pinned (OpenSpec.upto frontFaultsSpec)

/-- 'tappetlaw27.FrontPaths', WHERE WHAT IT READS IS OF BULK AT MOST 1048576: true; the input reads as it did. -/
def frontPathsUptoRow : OpenClaim := { program := "ytkjgklpdoomjcaa", sum := "02d44152c940aa0c4919d3de6297a2af517423f5d64c82645df4c86fc9a0197e", func := "tappet/tappetlaw27.FrontPaths", spec := "frontPaths", unfollowed := true, recurses := true, apart := false, narrowed := true }
def FrontPathsUptoSaid : Prop := frontPathsUptoRow.holds Try.pinned (OpenSpec.upto frontPathsSpec)

/-- 'tappetlaw27.FrontPlays', WHERE WHAT IT READS IS OF BULK AT MOST 1048576: true; the input reads as it did. -/
def frontPlaysUptoRow : OpenClaim := { program := "ytkjgklpdoomjcaa", sum := "02d44152c940aa0c4919d3de6297a2af517423f5d64c82645df4c86fc9a0197e", func := "tappet/tappetlaw27.FrontPlays", spec := "frontPlays", unfollowed := true, recurses := true, apart := false, narrowed := true }
def FrontPlaysUptoSaid : Prop := frontPlaysUptoRow.holds Try.pinned (OpenSpec.upto frontPlaysSpec)

/-- 'tappetlaw27.FrontNil', WHERE WHAT IT READS IS OF BULK AT MOST 1048576: true; the input reads as it did. -/
def frontNilUptoRow : OpenClaim := { program := "ytkjgklpdoomjcaa", sum := "02d44152c940aa0c4919d3de6297a2af517423f5d64c82645df4c86fc9a0197e", func := "tappet/tappetlaw27.FrontNil", spec := "frontNil", unfollowed := true, recurses := true, apart := false, narrowed := true }
def FrontNilUptoSaid : Prop := frontNilUptoRow.holds Try.pinned (OpenSpec.upto frontNilSpec)

end Rows
end Go.Proofs.Ytkjgklpdoomjcaa

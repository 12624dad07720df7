/-
  No cell of these rows narrows 'for every input' (looked for: loops, veiled, ifaces, maps, wideKeys, modest, calm, conditions, laid).
  DERIVED. THE GIVEN ROWS OF THIS SEAT. 8 by the template 'for every input the law returns true; each argument reads behind the call as it read before'; 0 by the template 'total and deterministic' (their statements: YthfpiomooomhoaaTotals.lean).
  GIVEN WITH THE SEED: the statements are not yours to turn. If you find one false, say at which input.
  Laid BY PROGRAM, IN A SANDBOX (cutbox-rows.mjs): the forced cells as the released guide's own fill.sh prints them over the translation 2374d05afe56c8fb… (all of the seat's roots in one cut). By AI agents, Wed Nov 11 2026. No macro, syntax, notation, axiom, sorry.
-/
import Derived.Test.YthfpiomooomhoaaChecked
import GoSem.Claim
import GoSem.ClaimJoined
import GoSem.ClaimMapViews
import Derived.JoinedTies
import Derived.KernelRfl
namespace Go.Proofs.Ythfpiomooomhoaa
/- THE CELL 'sum', in the pinned program and in every row, IS THE sha256 OF THE DUMP (.gsa) THAT YthfpiomooomhoaaProg.lean LOADS. Nothing in Lean hashes anything: it is a label: what it is worth is what the hold of that sum in a sandbox is worth. -/
noncomputable def Try.pinned : Pinned := { name := "ythfpiomooomhoaa", sum := "2374d05afe56c8fbb77e59ba0ce027ea0c08a52938839fd90255d439ef5fd7c3", checked := Try.checked }
namespace Rows
def none {H : Type} : Left H := { results := [], args := [] }

/-- 'narratorlaw22.SegmentPartition': WHATEVER THE INPUT: true; the input reads as it did. -/
def segmentPartitionSpec : ChangeSpec := { name := "segmentPartition", fn := fun _ => fun
  | [d] => { results := [.lit (.bool true)], args := [d] }
  | _ => none }
def segmentPartitionRow : OpenClaim := { program := "ythfpiomooomhoaa", sum := "2374d05afe56c8fbb77e59ba0ce027ea0c08a52938839fd90255d439ef5fd7c3", func := "narrator/narratorlaw22.SegmentPartition", spec := "segmentPartition", unfollowed := true, recurses := true, apart := false }
def SegmentPartitionSaid : Prop := segmentPartitionRow.holds Try.pinned (OpenSpec.ofChange segmentPartitionSpec)

/-- ITS FALSE NEIGHBOUR: 'it returns false'. Refute it at one input. -/
def segmentPartitionWrong : ChangeSpec := { name := "segmentPartition", fn := fun _ => fun
  | [d] => { results := [.lit (.bool false)], args := [d] }
  | _ => none }
def SegmentPartitionWrongFalsely : Prop := segmentPartitionRow.holds Try.pinned (OpenSpec.ofChange segmentPartitionWrong)

/-- 'narratorlaw22.SegmentMaximal': WHATEVER THE INPUT: true; the input reads as it did. -/
def segmentMaximalSpec : ChangeSpec := { name := "segmentMaximal", fn := fun _ => fun
  | [d] => { results := [.lit (.bool true)], args := [d] }
  | _ => none }
def segmentMaximalRow : OpenClaim := { program := "ythfpiomooomhoaa", sum := "2374d05afe56c8fbb77e59ba0ce027ea0c08a52938839fd90255d439ef5fd7c3", func := "narrator/narratorlaw22.SegmentMaximal", spec := "segmentMaximal", unfollowed := true, recurses := true, apart := false }
def SegmentMaximalSaid : Prop := segmentMaximalRow.holds Try.pinned (OpenSpec.ofChange segmentMaximalSpec)

/-- ITS FALSE NEIGHBOUR: 'it returns false'. Refute it at one input. -/
def segmentMaximalWrong : ChangeSpec := { name := "segmentMaximal", fn := fun _ => fun
  | [d] => { results := [.lit (.bool false)], args := [d] }
  | _ => none }
def SegmentMaximalWrongFalsely : Prop := segmentMaximalRow.holds Try.pinned (OpenSpec.ofChange segmentMaximalWrong)

/-- 'narratorlaw22.SegmentFields': WHATEVER THE INPUT: true; the input reads as it did. -/
def segmentFieldsSpec : ChangeSpec := { name := "segmentFields", fn := fun _ => fun
  | [d] => { results := [.lit (.bool true)], args := [d] }
  | _ => none }
def segmentFieldsRow : OpenClaim := { program := "ythfpiomooomhoaa", sum := "2374d05afe56c8fbb77e59ba0ce027ea0c08a52938839fd90255d439ef5fd7c3", func := "narrator/narratorlaw22.SegmentFields", spec := "segmentFields", unfollowed := true, recurses := true, apart := false }
def SegmentFieldsSaid : Prop := segmentFieldsRow.holds Try.pinned (OpenSpec.ofChange segmentFieldsSpec)

/-- ITS FALSE NEIGHBOUR: 'it returns false'. Refute it at one input. -/
def segmentFieldsWrong : ChangeSpec := { name := "segmentFields", fn := fun _ => fun
  | [d] => { results := [.lit (.bool false)], args := [d] }
  | _ => none }
def SegmentFieldsWrongFalsely : Prop := segmentFieldsRow.holds Try.pinned (OpenSpec.ofChange segmentFieldsWrong)

/-- 'narratorlaw22.SegmentSpans': WHATEVER THE INPUT: true; the input reads as it did. -/
def segmentSpansSpec : ChangeSpec := { name := "segmentSpans", fn := fun _ => fun
  | [d] => { results := [.lit (.bool true)], args := [d] }
  | _ => none }
def segmentSpansRow : OpenClaim := { program := "ythfpiomooomhoaa", sum := "2374d05afe56c8fbb77e59ba0ce027ea0c08a52938839fd90255d439ef5fd7c3", func := "narrator/narratorlaw22.SegmentSpans", spec := "segmentSpans", unfollowed := true, recurses := true, apart := false }
def SegmentSpansSaid : Prop := segmentSpansRow.holds Try.pinned (OpenSpec.ofChange segmentSpansSpec)

/-- ITS FALSE NEIGHBOUR: 'it returns false'. Refute it at one input. -/
def segmentSpansWrong : ChangeSpec := { name := "segmentSpans", fn := fun _ => fun
  | [d] => { results := [.lit (.bool false)], args := [d] }
  | _ => none }
def SegmentSpansWrongFalsely : Prop := segmentSpansRow.holds Try.pinned (OpenSpec.ofChange segmentSpansWrong)

/-- 'narratorlaw22.SegmentNested': WHATEVER THE INPUT: true; the input reads as it did. -/
def segmentNestedSpec : ChangeSpec := { name := "segmentNested", fn := fun _ => fun
  | [d] => { results := [.lit (.bool true)], args := [d] }
  | _ => none }
def segmentNestedRow : OpenClaim := { program := "ythfpiomooomhoaa", sum := "2374d05afe56c8fbb77e59ba0ce027ea0c08a52938839fd90255d439ef5fd7c3", func := "narrator/narratorlaw22.SegmentNested", spec := "segmentNested", unfollowed := true, recurses := true, apart := false }
def SegmentNestedSaid : Prop := segmentNestedRow.holds Try.pinned (OpenSpec.ofChange segmentNestedSpec)

/-- ITS FALSE NEIGHBOUR: 'it returns false'. Refute it at one input. -/
def segmentNestedWrong : ChangeSpec := { name := "segmentNested", fn := fun _ => fun
  | [d] => { results := [.lit (.bool false)], args := [d] }
  | _ => none }
def SegmentNestedWrongFalsely : Prop := segmentNestedRow.holds Try.pinned (OpenSpec.ofChange segmentNestedWrong)

/-- 'narratorlaw22.SegmentStyle': WHATEVER THE INPUT: true; the input reads as it did. -/
def segmentStyleSpec : ChangeSpec := { name := "segmentStyle", fn := fun _ => fun
  | [d1, d2] => { results := [.lit (.bool true)], args := [d1, d2] }
  | _ => none }
def segmentStyleRow : OpenClaim := { program := "ythfpiomooomhoaa", sum := "2374d05afe56c8fbb77e59ba0ce027ea0c08a52938839fd90255d439ef5fd7c3", func := "narrator/narratorlaw22.SegmentStyle", spec := "segmentStyle", unfollowed := true, recurses := true, apart := false }
def SegmentStyleSaid : Prop := segmentStyleRow.holds Try.pinned (OpenSpec.ofChange segmentStyleSpec)

/-- ITS FALSE NEIGHBOUR: 'it returns false'. Refute it at one input. -/
def segmentStyleWrong : ChangeSpec := { name := "segmentStyle", fn := fun _ => fun
  | [d1, d2] => { results := [.lit (.bool false)], args := [d1, d2] }
  | _ => none }
def SegmentStyleWrongFalsely : Prop := segmentStyleRow.holds Try.pinned (OpenSpec.ofChange segmentStyleWrong)

/-- 'narratorlaw22.SegmentSteps': WHATEVER THE INPUT: true; the input reads as it did. -/
def segmentStepsSpec : ChangeSpec := { name := "segmentSteps", fn := fun _ => fun
  | [d1, d2] => { results := [.lit (.bool true)], args := [d1, d2] }
  | _ => none }
def segmentStepsRow : OpenClaim := { program := "ythfpiomooomhoaa", sum := "2374d05afe56c8fbb77e59ba0ce027ea0c08a52938839fd90255d439ef5fd7c3", func := "narrator/narratorlaw22.SegmentSteps", spec := "segmentSteps", unfollowed := true, recurses := true, apart := false }
def SegmentStepsSaid : Prop := segmentStepsRow.holds Try.pinned (OpenSpec.ofChange segmentStepsSpec)

/-- ITS FALSE NEIGHBOUR: 'it returns false'. Refute it at one input. -/
def segmentStepsWrong : ChangeSpec := { name := "segmentSteps", fn := fun _ => fun
  | [d1, d2] => { results := [.lit (.bool false)], args := [d1, d2] }
  | _ => none }
def SegmentStepsWrongFalsely : Prop := segmentStepsRow.holds Try.pinned (OpenSpec.ofChange segmentStepsWrong)

/-- 'narratorlaw22.SegmentWalk': WHATEVER THE INPUT: true; the input reads as it did. -/
def segmentWalkSpec : ChangeSpec := { name := "segmentWalk", fn := fun _ => fun
  | [d] => { results := [.lit (.bool true)], args := [d] }
  | _ => none }
def segmentWalkRow : OpenClaim := { program := "ythfpiomooomhoaa", sum := "2374d05afe56c8fbb77e59ba0ce027ea0c08a52938839fd90255d439ef5fd7c3", func := "narrator/narratorlaw22.SegmentWalk", spec := "segmentWalk", unfollowed := true, recurses := true, apart := false }
def SegmentWalkSaid : Prop := segmentWalkRow.holds Try.pinned (OpenSpec.ofChange segmentWalkSpec)

/-- ITS FALSE NEIGHBOUR: 'it returns false'. Refute it at one input. -/
def segmentWalkWrong : ChangeSpec := { name := "segmentWalk", fn := fun _ => fun
  | [d] => { results := [.lit (.bool false)], args := [d] }
  | _ => none }
def SegmentWalkWrongFalsely : Prop := segmentWalkRow.holds Try.pinned (OpenSpec.ofChange segmentWalkWrong)

/- THE SECOND FORM. 'bulk': how many values and letters a reading holds, each counted each time it is reached (what is shared counts as often as it is met; a slice's spare places count too). A statement '..UptoSaid' is the law's where the arguments, and the package variables that the reading takes, are together of bulk at most 1048576: NARROWER than '..Said'. Prove '..Said' where nothing that the law and all that it calls make is longer than what came in: it says more and counts as full. Else prove '..UptoSaid'. A law counts once. -/
mutual
def uptoBulk {H : Type} : DataW H → Nat
  | .lit (.string bytes) => bytes.length + 1
  | .lit _ => 1
  | .nil => 1
  | .ptr d => uptoBulk d + 1
  | .slice elems spare => uptoBulkAll elems + uptoBulkAll spare + 1
  | .agg parts => uptoBulkAll parts + 1
  | .iface _ d => uptoBulk d + 1
  | .map entries => uptoBulkEntries entries + 1
  | .held _ => 1
def uptoBulkAll {H : Type} : List (DataW H) → Nat
  | [] => 0
  | d :: r => uptoBulk d + uptoBulkAll r
def uptoBulkEntries {H : Type} : List (Lit × DataW H) → Nat
  | [] => 0
  | x :: r => uptoBulkEntry x + uptoBulkEntries r
def uptoBulkEntry {H : Type} : Lit × DataW H → Nat
  | (.string bytes, d) => bytes.length + uptoBulk d + 1
  | (_, d) => uptoBulk d + 1
 end
def uptoSmall : (H : Type) → List (DataW H) → Bool := fun _ ds => decide (uptoBulkAll ds ≤ 1048576)
def OpenSpec.upto (s : _root_.Go.ChangeSpec) : _root_.Go.OpenSpec := { _root_.Go.OpenSpec.ofChange s with cond := some uptoSmall }

/-- 'narratorlaw22.SegmentPartition', WHERE WHAT IT READS IS OF BULK AT MOST 1048576: true; the input reads as it did. -/
def segmentPartitionUptoRow : OpenClaim := { program := "ythfpiomooomhoaa", sum := "2374d05afe56c8fbb77e59ba0ce027ea0c08a52938839fd90255d439ef5fd7c3", func := "narrator/narratorlaw22.SegmentPartition", spec := "segmentPartition", unfollowed := true, recurses := true, apart := false, narrowed := true }
def SegmentPartitionUptoSaid : Prop := segmentPartitionUptoRow.holds Try.pinned (OpenSpec.upto segmentPartitionSpec)

/-- 'narratorlaw22.SegmentMaximal', WHERE WHAT IT READS IS OF BULK AT MOST 1048576: true; the input reads as it did. -/
def segmentMaximalUptoRow : OpenClaim := { program := "ythfpiomooomhoaa", sum := "2374d05afe56c8fbb77e59ba0ce027ea0c08a52938839fd90255d439ef5fd7c3", func := "narrator/narratorlaw22.SegmentMaximal", spec := "segmentMaximal", unfollowed := true, recurses := true, apart := false, narrowed := true }
def SegmentMaximalUptoSaid : Prop := segmentMaximalUptoRow.holds Try.pinned (OpenSpec.upto segmentMaximalSpec)

/-- 'narratorlaw22.SegmentFields', WHERE WHAT IT READS IS OF BULK AT MOST 1048576: true; the input reads as it did. -/
def segmentFieldsUptoRow : OpenClaim := { program := "ythfpiomooomhoaa", sum := "2374d05afe56c8fbb77e59ba0ce027ea0c08a52938839fd90255d439ef5fd7c3", func := "narrator/narratorlaw22.SegmentFields", spec := "segmentFields", unfollowed := true, recurses := true, apart := false, narrowed := true }
def SegmentFieldsUptoSaid : Prop := segmentFieldsUptoRow.holds Try.pinned (OpenSpec.upto segmentFieldsSpec)

/-- 'narratorlaw22.SegmentSpans', WHERE WHAT IT READS IS OF BULK AT MOST 1048576: true; the input reads as it did. -/
def segmentSpansUptoRow : OpenClaim := { program := "ythfpiomooomhoaa", sum := "2374d05afe56c8fbb77e59ba0ce027ea0c08a52938839fd90255d439ef5fd7c3", func := "narrator/narratorlaw22.SegmentSpans", spec := "segmentSpans", unfollowed := true, recurses := true, apart := false, narrowed := true }
def SegmentSpansUptoSaid : Prop := segmentSpansUptoRow.holds Try.pinned (OpenSpec.upto segmentSpansSpec)

/-- 'narratorlaw22.SegmentNested', WHERE WHAT IT READS IS OF BULK AT MOST 1048576: true; the input reads as it did. -/
def segmentNestedUptoRow : OpenClaim := { program := "ythfpiomooomhoaa", sum := "2374d05afe56c8fbb77e59ba0ce027ea0c08a52938839fd90255d439ef5fd7c3", func := "narrator/narratorlaw22.SegmentNested", spec := "segmentNested", unfollowed := true, recurses := true, apart := false, narrowed := true }
def SegmentNestedUptoSaid : Prop := segmentNestedUptoRow.holds Try.pinned (OpenSpec.upto segmentNestedSpec)

/-- 'narratorlaw22.SegmentStyle', WHERE WHAT IT READS IS OF BULK AT MOST 1048576: true; the input reads as it did. -/
def segmentStyleUptoRow : OpenClaim := { program := "ythfpiomooomhoaa", sum := "2374d05afe56c8fbb77e59ba0ce027ea0c08a52938839fd90255d439ef5fd7c3", func := "narrator/narratorlaw22.SegmentStyle", spec := "segmentStyle", unfollowed := true, recurses := true, apart := false, narrowed := true }
def SegmentStyleUptoSaid : Prop := segmentStyleUptoRow.holds Try.pinned (OpenSpec.upto segmentStyleSpec)

/-- 'narratorlaw22.SegmentSteps', WHERE WHAT IT READS IS OF BULK AT MOST 1048576: true; the input reads as it did. -/
def segmentStepsUptoRow : OpenClaim := { program := "ythfpiomooomhoaa", sum := "2374d05afe56c8fbb77e59ba0ce027ea0c08a52938839fd90255d439ef5fd7c3", func := "narrator/narratorlaw22.SegmentSteps", spec := "segmentSteps", unfollowed := true, recurses := true, apart := false, narrowed := true }
def SegmentStepsUptoSaid : Prop := segmentStepsUptoRow.holds Try.pinned (OpenSpec.upto segmentStepsSpec)

/-- 'narratorlaw22.SegmentWalk', WHERE WHAT IT READS IS OF BULK AT MOST 1048576: true; the input reads as it did. -/
def segmentWalkUptoRow : OpenClaim := { program := "ythfpiomooomhoaa", sum := "2374d05afe56c8fbb77e59ba0ce027ea0c08a52938839fd90255d439ef5fd7c3", func := "narrator/narratorlaw22.SegmentWalk", spec := "segmentWalk", unfollowed := true, recurses := true, apart := false, narrowed := true }
def SegmentWalkUptoSaid : Prop := segmentWalkUptoRow.holds Try.pinned (OpenSpec.upto segmentWalkSpec)

end Rows
end Go.Proofs.Ythfpiomooomhoaa

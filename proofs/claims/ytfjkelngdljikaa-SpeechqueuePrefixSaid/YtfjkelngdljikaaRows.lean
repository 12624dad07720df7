/-
  No cell of these rows narrows 'for every input' (looked for: loops, veiled, ifaces, maps, wideKeys, modest, calm, conditions, laid).
  DERIVED. THE GIVEN ROWS OF THIS SEAT. 8 by the template 'for every input the law returns true; each argument reads behind the call as it read before'; 0 by the template 'total and deterministic' (their statements: YtfjkelngdljikaaTotals.lean).
  GIVEN WITH THE SEED: the statements are not yours to turn. If you find one false, say at which input.
  Laid BY PROGRAM, IN A SANDBOX (cutbox-rows.mjs): the forced cells as the released guide's own fill.sh prints them over the translation 5bbf5c26370e5c77… (all of the seat's roots in one cut). By AI agents, Wed Nov 11 2026. No macro, syntax, notation, axiom, sorry.
-/
import Derived.Test.YtfjkelngdljikaaChecked
import GoSem.Claim
import GoSem.ClaimJoined
import GoSem.ClaimMapViews
import Derived.JoinedTies
import Derived.KernelRfl
namespace Go.Proofs.Ytfjkelngdljikaa
/- THE CELL 'sum', in the pinned program and in every row, IS THE sha256 OF THE DUMP (.gsa) THAT YtfjkelngdljikaaProg.lean LOADS. Nothing in Lean hashes anything: it is a label: what it is worth is what the hold of that sum in a sandbox is worth. -/
noncomputable def Try.pinned : Pinned := { name := "ytfjkelngdljikaa", sum := "5bbf5c26370e5c77e2fc0f6e3f9296f8bab80efd6db08b545469a0ea1c5b6424", checked := Try.checked }
namespace Rows
def none {H : Type} : Left H := { results := [], args := [] }

/-- 'narratorlaw44.SpeechqueueReplace': WHATEVER THE INPUT: true; the input reads as it did. -/
def speechqueueReplaceSpec : ChangeSpec := { name := "speechqueueReplace", fn := fun _ => fun
  | [d1, d2] => { results := [.lit (.bool true)], args := [d1, d2] }
  | _ => none }
def speechqueueReplaceRow : OpenClaim := { program := "ytfjkelngdljikaa", sum := "5bbf5c26370e5c77e2fc0f6e3f9296f8bab80efd6db08b545469a0ea1c5b6424", func := "narrator/narratorlaw44.SpeechqueueReplace", spec := "speechqueueReplace", unfollowed := true, recurses := true, apart := false }
def SpeechqueueReplaceSaid : Prop := speechqueueReplaceRow.holds Try.pinned (OpenSpec.ofChange speechqueueReplaceSpec)

/-- ITS FALSE NEIGHBOUR: 'it returns false'. Refute it at one input. -/
def speechqueueReplaceWrong : ChangeSpec := { name := "speechqueueReplace", fn := fun _ => fun
  | [d1, d2] => { results := [.lit (.bool false)], args := [d1, d2] }
  | _ => none }
def SpeechqueueReplaceWrongFalsely : Prop := speechqueueReplaceRow.holds Try.pinned (OpenSpec.ofChange speechqueueReplaceWrong)

/-- 'narratorlaw44.SpeechqueueCheck': WHATEVER THE INPUT: true; the input reads as it did. -/
def speechqueueCheckSpec : ChangeSpec := { name := "speechqueueCheck", fn := fun _ => fun
  | [d1, d2, d3] => { results := [.lit (.bool true)], args := [d1, d2, d3] }
  | _ => none }
def speechqueueCheckRow : OpenClaim := { program := "ytfjkelngdljikaa", sum := "5bbf5c26370e5c77e2fc0f6e3f9296f8bab80efd6db08b545469a0ea1c5b6424", func := "narrator/narratorlaw44.SpeechqueueCheck", spec := "speechqueueCheck", unfollowed := true, recurses := true, apart := false }
def SpeechqueueCheckSaid : Prop := speechqueueCheckRow.holds Try.pinned (OpenSpec.ofChange speechqueueCheckSpec)

/-- ITS FALSE NEIGHBOUR: 'it returns false'. Refute it at one input. -/
def speechqueueCheckWrong : ChangeSpec := { name := "speechqueueCheck", fn := fun _ => fun
  | [d1, d2, d3] => { results := [.lit (.bool false)], args := [d1, d2, d3] }
  | _ => none }
def SpeechqueueCheckWrongFalsely : Prop := speechqueueCheckRow.holds Try.pinned (OpenSpec.ofChange speechqueueCheckWrong)

/-- 'narratorlaw44.SpeechqueueAdvance': WHATEVER THE INPUT: true; the input reads as it did. -/
def speechqueueAdvanceSpec : ChangeSpec := { name := "speechqueueAdvance", fn := fun _ => fun
  | [d1, d2] => { results := [.lit (.bool true)], args := [d1, d2] }
  | _ => none }
def speechqueueAdvanceRow : OpenClaim := { program := "ytfjkelngdljikaa", sum := "5bbf5c26370e5c77e2fc0f6e3f9296f8bab80efd6db08b545469a0ea1c5b6424", func := "narrator/narratorlaw44.SpeechqueueAdvance", spec := "speechqueueAdvance", unfollowed := true, recurses := true, apart := false }
def SpeechqueueAdvanceSaid : Prop := speechqueueAdvanceRow.holds Try.pinned (OpenSpec.ofChange speechqueueAdvanceSpec)

/-- ITS FALSE NEIGHBOUR: 'it returns false'. Refute it at one input. -/
def speechqueueAdvanceWrong : ChangeSpec := { name := "speechqueueAdvance", fn := fun _ => fun
  | [d1, d2] => { results := [.lit (.bool false)], args := [d1, d2] }
  | _ => none }
def SpeechqueueAdvanceWrongFalsely : Prop := speechqueueAdvanceRow.holds Try.pinned (OpenSpec.ofChange speechqueueAdvanceWrong)

/-- 'narratorlaw44.SpeechqueueSteps': WHATEVER THE INPUT: true; the input reads as it did. -/
def speechqueueStepsSpec : ChangeSpec := { name := "speechqueueSteps", fn := fun _ => fun
  | [d1, d2, d3] => { results := [.lit (.bool true)], args := [d1, d2, d3] }
  | _ => none }
def speechqueueStepsRow : OpenClaim := { program := "ytfjkelngdljikaa", sum := "5bbf5c26370e5c77e2fc0f6e3f9296f8bab80efd6db08b545469a0ea1c5b6424", func := "narrator/narratorlaw44.SpeechqueueSteps", spec := "speechqueueSteps", unfollowed := true, recurses := true, apart := false }
def SpeechqueueStepsSaid : Prop := speechqueueStepsRow.holds Try.pinned (OpenSpec.ofChange speechqueueStepsSpec)

/-- ITS FALSE NEIGHBOUR: 'it returns false'. Refute it at one input. -/
def speechqueueStepsWrong : ChangeSpec := { name := "speechqueueSteps", fn := fun _ => fun
  | [d1, d2, d3] => { results := [.lit (.bool false)], args := [d1, d2, d3] }
  | _ => none }
def SpeechqueueStepsWrongFalsely : Prop := speechqueueStepsRow.holds Try.pinned (OpenSpec.ofChange speechqueueStepsWrong)

/-- 'narratorlaw44.SpeechqueueOrder': WHATEVER THE INPUT: true; the input reads as it did. -/
def speechqueueOrderSpec : ChangeSpec := { name := "speechqueueOrder", fn := fun _ => fun
  | [d1, d2] => { results := [.lit (.bool true)], args := [d1, d2] }
  | _ => none }
def speechqueueOrderRow : OpenClaim := { program := "ytfjkelngdljikaa", sum := "5bbf5c26370e5c77e2fc0f6e3f9296f8bab80efd6db08b545469a0ea1c5b6424", func := "narrator/narratorlaw44.SpeechqueueOrder", spec := "speechqueueOrder", unfollowed := true, recurses := true, apart := false }
def SpeechqueueOrderSaid : Prop := speechqueueOrderRow.holds Try.pinned (OpenSpec.ofChange speechqueueOrderSpec)

/-- ITS FALSE NEIGHBOUR: 'it returns false'. Refute it at one input. -/
def speechqueueOrderWrong : ChangeSpec := { name := "speechqueueOrder", fn := fun _ => fun
  | [d1, d2] => { results := [.lit (.bool false)], args := [d1, d2] }
  | _ => none }
def SpeechqueueOrderWrongFalsely : Prop := speechqueueOrderRow.holds Try.pinned (OpenSpec.ofChange speechqueueOrderWrong)

/-- 'narratorlaw44.SpeechqueueRest': WHATEVER THE INPUT: true; the input reads as it did. -/
def speechqueueRestSpec : ChangeSpec := { name := "speechqueueRest", fn := fun _ => fun
  | [d] => { results := [.lit (.bool true)], args := [d] }
  | _ => none }
def speechqueueRestRow : OpenClaim := { program := "ytfjkelngdljikaa", sum := "5bbf5c26370e5c77e2fc0f6e3f9296f8bab80efd6db08b545469a0ea1c5b6424", func := "narrator/narratorlaw44.SpeechqueueRest", spec := "speechqueueRest", unfollowed := true, recurses := true, apart := false }
def SpeechqueueRestSaid : Prop := speechqueueRestRow.holds Try.pinned (OpenSpec.ofChange speechqueueRestSpec)

/-- ITS FALSE NEIGHBOUR: 'it returns false'. Refute it at one input. -/
def speechqueueRestWrong : ChangeSpec := { name := "speechqueueRest", fn := fun _ => fun
  | [d] => { results := [.lit (.bool false)], args := [d] }
  | _ => none }
def SpeechqueueRestWrongFalsely : Prop := speechqueueRestRow.holds Try.pinned (OpenSpec.ofChange speechqueueRestWrong)

/-- 'narratorlaw44.SpeechqueuePrefix': WHATEVER THE INPUT: true; the input reads as it did. -/
def speechqueuePrefixSpec : ChangeSpec := { name := "speechqueuePrefix", fn := fun _ => fun
  | [d1, d2, d3] => { results := [.lit (.bool true)], args := [d1, d2, d3] }
  | _ => none }
def speechqueuePrefixRow : OpenClaim := { program := "ytfjkelngdljikaa", sum := "5bbf5c26370e5c77e2fc0f6e3f9296f8bab80efd6db08b545469a0ea1c5b6424", func := "narrator/narratorlaw44.SpeechqueuePrefix", spec := "speechqueuePrefix", unfollowed := true, recurses := true, apart := false }
def SpeechqueuePrefixSaid : Prop := speechqueuePrefixRow.holds Try.pinned (OpenSpec.ofChange speechqueuePrefixSpec)

/-- ITS FALSE NEIGHBOUR: 'it returns false'. Refute it at one input. -/
def speechqueuePrefixWrong : ChangeSpec := { name := "speechqueuePrefix", fn := fun _ => fun
  | [d1, d2, d3] => { results := [.lit (.bool false)], args := [d1, d2, d3] }
  | _ => none }
def SpeechqueuePrefixWrongFalsely : Prop := speechqueuePrefixRow.holds Try.pinned (OpenSpec.ofChange speechqueuePrefixWrong)

/-- 'narratorlaw44.SpeechqueueShift': WHATEVER THE INPUT: true; the input reads as it did. -/
def speechqueueShiftSpec : ChangeSpec := { name := "speechqueueShift", fn := fun _ => fun
  | [d1, d2, d3] => { results := [.lit (.bool true)], args := [d1, d2, d3] }
  | _ => none }
def speechqueueShiftRow : OpenClaim := { program := "ytfjkelngdljikaa", sum := "5bbf5c26370e5c77e2fc0f6e3f9296f8bab80efd6db08b545469a0ea1c5b6424", func := "narrator/narratorlaw44.SpeechqueueShift", spec := "speechqueueShift", unfollowed := true, recurses := true, apart := false }
def SpeechqueueShiftSaid : Prop := speechqueueShiftRow.holds Try.pinned (OpenSpec.ofChange speechqueueShiftSpec)

/-- ITS FALSE NEIGHBOUR: 'it returns false'. Refute it at one input. -/
def speechqueueShiftWrong : ChangeSpec := { name := "speechqueueShift", fn := fun _ => fun
  | [d1, d2, d3] => { results := [.lit (.bool false)], args := [d1, d2, d3] }
  | _ => none }
def SpeechqueueShiftWrongFalsely : Prop := speechqueueShiftRow.holds Try.pinned (OpenSpec.ofChange speechqueueShiftWrong)

/- THE SECOND FORM. 'bulk': how many values and letters a reading holds, each counted each time it is reached (what is shared counts as often as it is met; a slice's spare places count too). A statement '..UptoSaid' is the law's where the arguments, and the package variables that the reading takes, are together of bulk at most 1048576: NARROWER than '..Said'. Prove '..Said' where nothing that the law and all that it calls make is longer than what came in: it says more and counts as full. Else prove '..UptoSaid'. A law counts once. -/
mutual
def uptoBulk {H : Type} : DataW H → Nat
  | .lit (.string bytes) => bytes.length + 1
  | .lit _ => 1
  | .nil => 1
  | .ptr d => uptoBulk d + 1
  | .slice elems spare => uptoBulkAll elems + uptoBulkAll spare + 1
  | .agg parts => uptoBulkAll parts + 1
  | .iface _ d => uptoBulk d + 1
  | .map entries => uptoBulkEntries entries + 1
  | .held _ => 1
def uptoBulkAll {H : Type} : List (DataW H) → Nat
  | [] => 0
  | d :: r => uptoBulk d + uptoBulkAll r
def uptoBulkEntries {H : Type} : List (Lit × DataW H) → Nat
  | [] => 0
  | x :: r => uptoBulkEntry x + uptoBulkEntries r
def uptoBulkEntry {H : Type} : Lit × DataW H → Nat
  | (.string bytes, d) => bytes.length + uptoBulk d + 1
  | (_, d) => uptoBulk d + 1
 end
def uptoSmall : (H : Type) → List (DataW H) → Bool := fun _ ds => decide (uptoBulkAll ds ≤ 1048576)
def OpenSpec.upto (s : _root_.Go.ChangeSpec) : _root_.Go.OpenSpec := { _root_.Go.OpenSpec.ofChange s with cond := some uptoSmall }

/-- 'narratorlaw44.SpeechqueueReplace', WHERE WHAT IT READS IS OF BULK AT MOST 1048576: true; the input reads as it did. -/
def speechqueueReplaceUptoRow : OpenClaim := { program := "ytfjkelngdljikaa", sum := "5bbf5c26370e5c77e2fc0f6e3f9296f8bab80efd6db08b545469a0ea1c5b6424", func := "narrator/narratorlaw44.SpeechqueueReplace", spec := "speechqueueReplace", unfollowed := true, recurses := true, apart := false, narrowed := true }
def SpeechqueueReplaceUptoSaid : Prop := speechqueueReplaceUptoRow.holds Try.pinned (OpenSpec.upto speechqueueReplaceSpec)

/-- 'narratorlaw44.SpeechqueueCheck', WHERE WHAT IT READS IS OF BULK AT MOST 1048576: true; the input reads as it did. -/
def speechqueueCheckUptoRow : OpenClaim := { program := "ytfjkelngdljikaa", sum := "5bbf5c26370e5c77e2fc0f6e3f9296f8bab80efd6db08b545469a0ea1c5b6424", func := "narrator/narratorlaw44.SpeechqueueCheck", spec := "speechqueueCheck", unfollowed := true, recurses := true, apart := false, narrowed := true }
def SpeechqueueCheckUptoSaid : Prop := speechqueueCheckUptoRow.holds Try.pinned (OpenSpec.upto speechqueueCheckSpec)

/-- 'narratorlaw44.SpeechqueueAdvance', WHERE WHAT IT READS IS OF BULK AT MOST 1048576: true; the input reads as it did. -/
def speechqueueAdvanceUptoRow : OpenClaim := { program := "ytfjkelngdljikaa", sum := "5bbf5c26370e5c77e2fc0f6e3f9296f8bab80efd6db08b545469a0ea1c5b6424", func := "narrator/narratorlaw44.SpeechqueueAdvance", spec := "speechqueueAdvance", unfollowed := true, recurses := true, apart := false, narrowed := true }
def SpeechqueueAdvanceUptoSaid : Prop := speechqueueAdvanceUptoRow.holds Try.pinned (OpenSpec.upto speechqueueAdvanceSpec)

/-- 'narratorlaw44.SpeechqueueSteps', WHERE WHAT IT READS IS OF BULK AT MOST 1048576: true; the input reads as it did. -/
def speechqueueStepsUptoRow : OpenClaim := { program := "ytfjkelngdljikaa", sum := "5bbf5c26370e5c77e2fc0f6e3f9296f8bab80efd6db08b545469a0ea1c5b6424", func := "narrator/narratorlaw44.SpeechqueueSteps", spec := "speechqueueSteps", unfollowed := true, recurses := true, apart := false, narrowed := true }
def SpeechqueueStepsUptoSaid : Prop := speechqueueStepsUptoRow.holds Try.pinned (OpenSpec.upto speechqueueStepsSpec)

/-- 'narratorlaw44.SpeechqueueOrder', WHERE WHAT IT READS IS OF BULK AT MOST 1048576: true; the input reads as it did. -/
def speechqueueOrderUptoRow : OpenClaim := { program := "ytfjkelngdljikaa", sum := "5bbf5c26370e5c77e2fc0f6e3f9296f8bab80efd6db08b545469a0ea1c5b6424", func := "narrator/narratorlaw44.SpeechqueueOrder", spec := "speechqueueOrder", unfollowed := true, recurses := true, apart := false, narrowed := true }
def SpeechqueueOrderUptoSaid : Prop := speechqueueOrderUptoRow.holds Try.pinned (OpenSpec.upto speechqueueOrderSpec)

/-- 'narratorlaw44.SpeechqueueRest', WHERE WHAT IT READS IS OF BULK AT MOST 1048576: true; the input reads as it did. -/
def speechqueueRestUptoRow : OpenClaim := { program := "ytfjkelngdljikaa", sum := "5bbf5c26370e5c77e2fc0f6e3f9296f8bab80efd6db08b545469a0ea1c5b6424", func := "narrator/narratorlaw44.SpeechqueueRest", spec := "speechqueueRest", unfollowed := true, recurses := true, apart := false, narrowed := true }
def SpeechqueueRestUptoSaid : Prop := speechqueueRestUptoRow.holds Try.pinned (OpenSpec.upto speechqueueRestSpec)

/-- 'narratorlaw44.SpeechqueuePrefix', WHERE WHAT IT READS IS OF BULK AT MOST 1048576: true; the input reads as it did. -/
def speechqueuePrefixUptoRow : OpenClaim := { program := "ytfjkelngdljikaa", sum := "5bbf5c26370e5c77e2fc0f6e3f9296f8bab80efd6db08b545469a0ea1c5b6424", func := "narrator/narratorlaw44.SpeechqueuePrefix", spec := "speechqueuePrefix", unfollowed := true, recurses := true, apart := false, narrowed := true }
def SpeechqueuePrefixUptoSaid : Prop := speechqueuePrefixUptoRow.holds Try.pinned (OpenSpec.upto speechqueuePrefixSpec)

/-- 'narratorlaw44.SpeechqueueShift', WHERE WHAT IT READS IS OF BULK AT MOST 1048576: true; the input reads as it did. -/
def speechqueueShiftUptoRow : OpenClaim := { program := "ytfjkelngdljikaa", sum := "5bbf5c26370e5c77e2fc0f6e3f9296f8bab80efd6db08b545469a0ea1c5b6424", func := "narrator/narratorlaw44.SpeechqueueShift", spec := "speechqueueShift", unfollowed := true, recurses := true, apart := false, narrowed := true }
def SpeechqueueShiftUptoSaid : Prop := speechqueueShiftUptoRow.holds Try.pinned (OpenSpec.upto speechqueueShiftSpec)

end Rows
end Go.Proofs.Ytfjkelngdljikaa

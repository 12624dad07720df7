/-
  No cell of these rows narrows 'for every input' (looked for: loops, veiled, ifaces, maps, wideKeys, modest, calm, conditions, laid).
  DERIVED. THE GIVEN ROWS OF THIS SEAT. 8 by the template 'for every input the law returns true; each argument reads behind the call as it read before'; 0 by the template 'total and deterministic' (their statements: YtpigimmgadcogaaTotals.lean).
  GIVEN WITH THE SEED: the statements are not yours to turn. If you find one false, say at which input.
  Laid BY PROGRAM, IN A SANDBOX (cutbox-rows.mjs): the forced cells as the released guide's own fill.sh prints them over the translation 9514f007153997d4… (all of the seat's roots in one cut). By AI agents, Wed Nov 11 2026. No macro, syntax, notation, axiom, sorry.
-/
import Derived.Test.YtpigimmgadcogaaChecked
import GoSem.Claim
import GoSem.ClaimJoined
import GoSem.ClaimMapViews
import Derived.JoinedTies
import Derived.KernelRfl
namespace Go.Proofs.Ytpigimmgadcogaa
/- THE CELL 'sum', in the pinned program and in every row, IS THE sha256 OF THE DUMP (.gsa) THAT YtpigimmgadcogaaProg.lean LOADS. Nothing in Lean hashes anything: it is a label: what it is worth is what the hold of that sum in a sandbox is worth. -/
noncomputable def Try.pinned : Pinned := { name := "ytpigimmgadcogaa", sum := "9514f007153997d42b2e74de4d6898f28968cb1ded0c8a6f5e16d14589f88d37", checked := Try.checked }
namespace Rows
def none {H : Type} : Left H := { results := [], args := [] }

/-- 'narratorlaw16.EditscriptScript': WHATEVER THE INPUT: true; the input reads as it did. -/
def editscriptScriptSpec : ChangeSpec := { name := "editscriptScript", fn := fun _ => fun
  | [d1, d2] => { results := [.lit (.bool true)], args := [d1, d2] }
  | _ => none }
def editscriptScriptRow : OpenClaim := { program := "ytpigimmgadcogaa", sum := "9514f007153997d42b2e74de4d6898f28968cb1ded0c8a6f5e16d14589f88d37", func := "narrator/narratorlaw16.EditscriptScript", spec := "editscriptScript", unfollowed := true, recurses := true, apart := false }
def EditscriptScriptSaid : Prop := editscriptScriptRow.holds Try.pinned (OpenSpec.ofChange editscriptScriptSpec)

/-- ITS FALSE NEIGHBOUR: 'it returns false'. Refute it at one input. -/
def editscriptScriptWrong : ChangeSpec := { name := "editscriptScript", fn := fun _ => fun
  | [d1, d2] => { results := [.lit (.bool false)], args := [d1, d2] }
  | _ => none }
def EditscriptScriptWrongFalsely : Prop := editscriptScriptRow.holds Try.pinned (OpenSpec.ofChange editscriptScriptWrong)

/-- 'narratorlaw16.EditscriptMetric': WHATEVER THE INPUT: true; the input reads as it did. -/
def editscriptMetricSpec : ChangeSpec := { name := "editscriptMetric", fn := fun _ => fun
  | [d1, d2, d3] => { results := [.lit (.bool true)], args := [d1, d2, d3] }
  | _ => none }
def editscriptMetricRow : OpenClaim := { program := "ytpigimmgadcogaa", sum := "9514f007153997d42b2e74de4d6898f28968cb1ded0c8a6f5e16d14589f88d37", func := "narrator/narratorlaw16.EditscriptMetric", spec := "editscriptMetric", unfollowed := true, recurses := true, apart := false }
def EditscriptMetricSaid : Prop := editscriptMetricRow.holds Try.pinned (OpenSpec.ofChange editscriptMetricSpec)

/-- ITS FALSE NEIGHBOUR: 'it returns false'. Refute it at one input. -/
def editscriptMetricWrong : ChangeSpec := { name := "editscriptMetric", fn := fun _ => fun
  | [d1, d2, d3] => { results := [.lit (.bool false)], args := [d1, d2, d3] }
  | _ => none }
def EditscriptMetricWrongFalsely : Prop := editscriptMetricRow.holds Try.pinned (OpenSpec.ofChange editscriptMetricWrong)

/-- 'narratorlaw16.EditscriptCommon': WHATEVER THE INPUT: true; the input reads as it did. -/
def editscriptCommonSpec : ChangeSpec := { name := "editscriptCommon", fn := fun _ => fun
  | [d1, d2] => { results := [.lit (.bool true)], args := [d1, d2] }
  | _ => none }
def editscriptCommonRow : OpenClaim := { program := "ytpigimmgadcogaa", sum := "9514f007153997d42b2e74de4d6898f28968cb1ded0c8a6f5e16d14589f88d37", func := "narrator/narratorlaw16.EditscriptCommon", spec := "editscriptCommon", unfollowed := true, recurses := true, apart := false }
def EditscriptCommonSaid : Prop := editscriptCommonRow.holds Try.pinned (OpenSpec.ofChange editscriptCommonSpec)

/-- ITS FALSE NEIGHBOUR: 'it returns false'. Refute it at one input. -/
def editscriptCommonWrong : ChangeSpec := { name := "editscriptCommon", fn := fun _ => fun
  | [d1, d2] => { results := [.lit (.bool false)], args := [d1, d2] }
  | _ => none }
def EditscriptCommonWrongFalsely : Prop := editscriptCommonRow.holds Try.pinned (OpenSpec.ofChange editscriptCommonWrong)

/-- 'narratorlaw16.EditscriptContext': WHATEVER THE INPUT: true; the input reads as it did. -/
def editscriptContextSpec : ChangeSpec := { name := "editscriptContext", fn := fun _ => fun
  | [d1, d2, d3] => { results := [.lit (.bool true)], args := [d1, d2, d3] }
  | _ => none }
def editscriptContextRow : OpenClaim := { program := "ytpigimmgadcogaa", sum := "9514f007153997d42b2e74de4d6898f28968cb1ded0c8a6f5e16d14589f88d37", func := "narrator/narratorlaw16.EditscriptContext", spec := "editscriptContext", unfollowed := true, recurses := true, apart := false }
def EditscriptContextSaid : Prop := editscriptContextRow.holds Try.pinned (OpenSpec.ofChange editscriptContextSpec)

/-- ITS FALSE NEIGHBOUR: 'it returns false'. Refute it at one input. -/
def editscriptContextWrong : ChangeSpec := { name := "editscriptContext", fn := fun _ => fun
  | [d1, d2, d3] => { results := [.lit (.bool false)], args := [d1, d2, d3] }
  | _ => none }
def EditscriptContextWrongFalsely : Prop := editscriptContextRow.holds Try.pinned (OpenSpec.ofChange editscriptContextWrong)

/-- 'narratorlaw16.EditscriptRenamed': WHATEVER THE INPUT: true; the input reads as it did. -/
def editscriptRenamedSpec : ChangeSpec := { name := "editscriptRenamed", fn := fun _ => fun
  | [d1, d2] => { results := [.lit (.bool true)], args := [d1, d2] }
  | _ => none }
def editscriptRenamedRow : OpenClaim := { program := "ytpigimmgadcogaa", sum := "9514f007153997d42b2e74de4d6898f28968cb1ded0c8a6f5e16d14589f88d37", func := "narrator/narratorlaw16.EditscriptRenamed", spec := "editscriptRenamed", unfollowed := true, recurses := true, apart := false }
def EditscriptRenamedSaid : Prop := editscriptRenamedRow.holds Try.pinned (OpenSpec.ofChange editscriptRenamedSpec)

/-- ITS FALSE NEIGHBOUR: 'it returns false'. Refute it at one input. -/
def editscriptRenamedWrong : ChangeSpec := { name := "editscriptRenamed", fn := fun _ => fun
  | [d1, d2] => { results := [.lit (.bool false)], args := [d1, d2] }
  | _ => none }
def EditscriptRenamedWrongFalsely : Prop := editscriptRenamedRow.holds Try.pinned (OpenSpec.ofChange editscriptRenamedWrong)

/-- 'narratorlaw16.EditscriptApply': WHATEVER THE INPUT: true; the input reads as it did. -/
def editscriptApplySpec : ChangeSpec := { name := "editscriptApply", fn := fun _ => fun
  | [d1, d2] => { results := [.lit (.bool true)], args := [d1, d2] }
  | _ => none }
def editscriptApplyRow : OpenClaim := { program := "ytpigimmgadcogaa", sum := "9514f007153997d42b2e74de4d6898f28968cb1ded0c8a6f5e16d14589f88d37", func := "narrator/narratorlaw16.EditscriptApply", spec := "editscriptApply", unfollowed := true, recurses := true, apart := false }
def EditscriptApplySaid : Prop := editscriptApplyRow.holds Try.pinned (OpenSpec.ofChange editscriptApplySpec)

/-- ITS FALSE NEIGHBOUR: 'it returns false'. Refute it at one input. -/
def editscriptApplyWrong : ChangeSpec := { name := "editscriptApply", fn := fun _ => fun
  | [d1, d2] => { results := [.lit (.bool false)], args := [d1, d2] }
  | _ => none }
def EditscriptApplyWrongFalsely : Prop := editscriptApplyRow.holds Try.pinned (OpenSpec.ofChange editscriptApplyWrong)

/-- 'narratorlaw16.EditscriptRoundTrip': WHATEVER THE INPUT: true; the input reads as it did. -/
def editscriptRoundTripSpec : ChangeSpec := { name := "editscriptRoundTrip", fn := fun _ => fun
  | [d1, d2] => { results := [.lit (.bool true)], args := [d1, d2] }
  | _ => none }
def editscriptRoundTripRow : OpenClaim := { program := "ytpigimmgadcogaa", sum := "9514f007153997d42b2e74de4d6898f28968cb1ded0c8a6f5e16d14589f88d37", func := "narrator/narratorlaw16.EditscriptRoundTrip", spec := "editscriptRoundTrip", unfollowed := true, recurses := true, apart := false }
def EditscriptRoundTripSaid : Prop := editscriptRoundTripRow.holds Try.pinned (OpenSpec.ofChange editscriptRoundTripSpec)

/-- ITS FALSE NEIGHBOUR: 'it returns false'. Refute it at one input. -/
def editscriptRoundTripWrong : ChangeSpec := { name := "editscriptRoundTrip", fn := fun _ => fun
  | [d1, d2] => { results := [.lit (.bool false)], args := [d1, d2] }
  | _ => none }
def EditscriptRoundTripWrongFalsely : Prop := editscriptRoundTripRow.holds Try.pinned (OpenSpec.ofChange editscriptRoundTripWrong)

/-- 'narratorlaw16.EditscriptMinimal': WHATEVER THE INPUT: true; the input reads as it did. -/
def editscriptMinimalSpec : ChangeSpec := { name := "editscriptMinimal", fn := fun _ => fun
  | [d1, d2] => { results := [.lit (.bool true)], args := [d1, d2] }
  | _ => none }
def editscriptMinimalRow : OpenClaim := { program := "ytpigimmgadcogaa", sum := "9514f007153997d42b2e74de4d6898f28968cb1ded0c8a6f5e16d14589f88d37", func := "narrator/narratorlaw16.EditscriptMinimal", spec := "editscriptMinimal", unfollowed := true, recurses := true, apart := false }
def EditscriptMinimalSaid : Prop := editscriptMinimalRow.holds Try.pinned (OpenSpec.ofChange editscriptMinimalSpec)

/-- ITS FALSE NEIGHBOUR: 'it returns false'. Refute it at one input. -/
def editscriptMinimalWrong : ChangeSpec := { name := "editscriptMinimal", fn := fun _ => fun
  | [d1, d2] => { results := [.lit (.bool false)], args := [d1, d2] }
  | _ => none }
def EditscriptMinimalWrongFalsely : Prop := editscriptMinimalRow.holds Try.pinned (OpenSpec.ofChange editscriptMinimalWrong)

/- THE SECOND FORM. 'bulk': how many values and letters a reading holds, each counted each time it is reached (what is shared counts as often as it is met; a slice's spare places count too). A statement '..UptoSaid' is the law's where the arguments, and the package variables that the reading takes, are together of bulk at most 1048576: NARROWER than '..Said'. Prove '..Said' where nothing that the law and all that it calls make is longer than what came in: it says more and counts as full. Else prove '..UptoSaid'. A law counts once. -/
mutual
def uptoBulk {H : Type} : DataW H → Nat
  | .lit (.string bytes) => bytes.length + 1
  | .lit _ => 1
  | .nil => 1
  | .ptr d => uptoBulk d + 1
  | .slice elems spare => uptoBulkAll elems + uptoBulkAll spare + 1
  | .agg parts => uptoBulkAll parts + 1
  | .iface _ d => uptoBulk d + 1
  | .map entries => uptoBulkEntries entries + 1
  | .held _ => 1
def uptoBulkAll {H : Type} : List (DataW H) → Nat
  | [] => 0
  | d :: r => uptoBulk d + uptoBulkAll r
def uptoBulkEntries {H : Type} : List (Lit × DataW H) → Nat
  | [] => 0
  | x :: r => uptoBulkEntry x + uptoBulkEntries r
def uptoBulkEntry {H : Type} : Lit × DataW H → Nat
  | (.string bytes, d) => bytes.length + uptoBulk d + 1
  | (_, d) => uptoBulk d + 1
 end
def uptoSmall : (H : Type) → List (DataW H) → Bool := fun _ ds => decide (uptoBulkAll ds ≤ 1048576)
def OpenSpec.upto (s : _root_.Go.ChangeSpec) : _root_.Go.OpenSpec := { _root_.Go.OpenSpec.ofChange s with cond := some uptoSmall }

/-- 'narratorlaw16.EditscriptScript', WHERE WHAT IT READS IS OF BULK AT MOST 1048576: true; the input reads as it did. -/
def editscriptScriptUptoRow : OpenClaim := { program := "ytpigimmgadcogaa", sum := "9514f007153997d42b2e74de4d6898f28968cb1ded0c8a6f5e16d14589f88d37", func := "narrator/narratorlaw16.EditscriptScript", spec := "editscriptScript", unfollowed := true, recurses := true, apart := false, narrowed := true }
def EditscriptScriptUptoSaid : Prop := editscriptScriptUptoRow.holds Try.pinned (OpenSpec.upto editscriptScriptSpec)

/-- 'narratorlaw16.EditscriptMetric', WHERE WHAT IT READS IS OF BULK AT MOST 1048576: true; the input reads as it did. -/
def editscriptMetricUptoRow : OpenClaim := { program := "ytpigimmgadcogaa", sum := "9514f007153997d42b2e74de4d6898f28968cb1ded0c8a6f5e16d14589f88d37", func := "narrator/narratorlaw16.EditscriptMetric", spec := "editscriptMetric", unfollowed := true, recurses := true, apart := false, narrowed := true }
def EditscriptMetricUptoSaid : Prop := editscriptMetricUptoRow.holds Try.pinned (OpenSpec.upto editscriptMetricSpec)

/-- 'narratorlaw16.EditscriptCommon', WHERE WHAT IT READS IS OF BULK AT MOST 1048576: true; the input reads as it did. -/
def editscriptCommonUptoRow : OpenClaim := { program := "ytpigimmgadcogaa", sum := "9514f007153997d42b2e74de4d6898f28968cb1ded0c8a6f5e16d14589f88d37", func := "narrator/narratorlaw16.EditscriptCommon", spec := "editscriptCommon", unfollowed := true, recurses := true, apart := false, narrowed := true }
def EditscriptCommonUptoSaid : Prop := editscriptCommonUptoRow.holds Try.pinned (OpenSpec.upto editscriptCommonSpec)

/-- 'narratorlaw16.EditscriptContext', WHERE WHAT IT READS IS OF BULK AT MOST 1048576: true; the input reads as it did. -/
def editscriptContextUptoRow : OpenClaim := { program := "ytpigimmgadcogaa", sum := "9514f007153997d42b2e74de4d6898f28968cb1ded0c8a6f5e16d14589f88d37", func := "narrator/narratorlaw16.EditscriptContext", spec := "editscriptContext", unfollowed := true, recurses := true, apart := false, narrowed := true }
def EditscriptContextUptoSaid : Prop := editscriptContextUptoRow.holds Try.pinned (OpenSpec.upto editscriptContextSpec)

/-- 'narratorlaw16.EditscriptRenamed', WHERE WHAT IT READS IS OF BULK AT MOST 1048576: true; the input reads as it did. -/
def editscriptRenamedUptoRow : OpenClaim := { program := "ytpigimmgadcogaa", sum := "9514f007153997d42b2e74de4d6898f28968cb1ded0c8a6f5e16d14589f88d37", func := "narrator/narratorlaw16.EditscriptRenamed", spec := "editscriptRenamed", unfollowed := true, recurses := true, apart := false, narrowed := true }
def EditscriptRenamedUptoSaid : Prop := editscriptRenamedUptoRow.holds Try.pinned (OpenSpec.upto editscriptRenamedSpec)

/-- 'narratorlaw16.EditscriptApply', WHERE WHAT IT READS IS OF BULK AT MOST 1048576: true; the input reads as it did. -/
def editscriptApplyUptoRow : OpenClaim := { program := "ytpigimmgadcogaa", sum := "9514f007153997d42b2e74de4d6898f28968cb1ded0c8a6f5e16d14589f88d37", func := "narrator/narratorlaw16.EditscriptApply", spec := "editscriptApply", unfollowed := true, recurses := true, apart := false, narrowed := true }
def EditscriptApplyUptoSaid : Prop := editscriptApplyUptoRow.holds Try.pinned (OpenSpec.upto editscriptApplySpec)

/-- 'narratorlaw16.EditscriptRoundTrip', WHERE WHAT IT READS IS OF BULK AT MOST 1048576: true; the input reads as it did. -/
def editscriptRoundTripUptoRow : OpenClaim := { program := "ytpigimmgadcogaa", sum := "9514f007153997d42b2e74de4d6898f28968cb1ded0c8a6f5e16d14589f88d37", func := "narrator/narratorlaw16.EditscriptRoundTrip", spec := "editscriptRoundTrip", unfollowed := true, recurses := true, apart := false, narrowed := true }
def EditscriptRoundTripUptoSaid : Prop := editscriptRoundTripUptoRow.holds Try.pinned (OpenSpec.upto editscriptRoundTripSpec)

/-- 'narratorlaw16.EditscriptMinimal', WHERE WHAT IT READS IS OF BULK AT MOST 1048576: true; the input reads as it did. -/
def editscriptMinimalUptoRow : OpenClaim := { program := "ytpigimmgadcogaa", sum := "9514f007153997d42b2e74de4d6898f28968cb1ded0c8a6f5e16d14589f88d37", func := "narrator/narratorlaw16.EditscriptMinimal", spec := "editscriptMinimal", unfollowed := true, recurses := true, apart := false, narrowed := true }
def EditscriptMinimalUptoSaid : Prop := editscriptMinimalUptoRow.holds Try.pinned (OpenSpec.upto editscriptMinimalSpec)

end Rows
end Go.Proofs.Ytpigimmgadcogaa
